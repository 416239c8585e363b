/- The walk of the reference reader's expression, branch for branch. -/
import Derived.Test.YtcaaadhhaanbcaaDoorRd
namespace Go.Proofs.YtcaaadhhaanbcaaDoor
open Go.RowKit

/-- The state of expr: the reader in its block, the results' blocks still zero. -/
structure ES (w0 W : World) (v : Value) (e i n : Nat) : Prop where
  hp : W.heap[w0.heap.size]? = some (.cells (rdA v e i n 0 0) 55 (0, 0))
  hx : W.heap[w0.heap.size + 1]? = some zeroEx
  hq : W.heap[w0.heap.size + 2]? = some zero6
  below : Below w0.heap.size w0 W
theorem ES.later {w0 W W' : World} {v : Value} {e i n : Nat} (h : ES w0 W v e i n) (hb : Below W.heap.size W W') : ES w0 W' v e i n :=
  ⟨(hb.block _ (Array.getElem?_eq_some_iff.1 h.hp).1).trans h.hp, (hb.block _ (Array.getElem?_eq_some_iff.1 h.hx).1).trans h.hx, (hb.block _ (Array.getElem?_eq_some_iff.1 h.hq).1).trans h.hq, h.below.trans (hb.mono h.below.size)⟩
theorem ES.lt {w0 W : World} {v : Value} {e i n : Nat} (h : ES w0 W v e i n) : w0.heap.size + 2 < W.heap.size := (Array.getElem?_eq_some_iff.1 h.hq).1
theorem ES.setN {w0 W : World} {v : Value} {e i n : Nat} (h : ES w0 W v e i n) (m : Nat) : ES w0 (W.setCell ⟨w0.heap.size, 3, none⟩ (.int .i64 m)) v e i m :=
  ⟨by have := h.hp; simp [World.setCell, Array.getElem?_modify, this], (set_far (by omega)).trans h.hx, (set_far (by omega)).trans h.hq, h.below.setCell (p := ⟨_, 3, none⟩) (Nat.le_refl _) _⟩
theorem ES.setI {w0 W : World} {v : Value} {e i n : Nat} (h : ES w0 W v e i n) (j : Nat) : ES w0 (W.setCell ⟨w0.heap.size, 2, none⟩ (.int .i64 j)) v e j n :=
  ⟨rd_set h.hp _, (set_far (by omega)).trans h.hx, (set_far (by omega)).trans h.hq, h.below.setCell (p := ⟨_, 2, none⟩) (Nat.le_refl _) _⟩
theorem ES.start {w : World} {v : Value} {e i n : Nat} : ES w (((w.alloc (.cells (rdA v e i n 0 0) 55)).alloc zeroEx).alloc zero6) v e i n := by
  refine ⟨?_, ?_, ?_, (((Below.refl _ _).alloc (Nat.le_refl _) _).alloc (by simp) _).alloc (by simp; omega) _⟩
  · rw [heap_alloc_old _ _ (by simp; omega), heap_alloc_old _ _ (by simp), heap_alloc_new]
  · rw [heap_alloc_old _ _ (by simp)]; have := heap_alloc_new (w.alloc (.cells (rdA v e i n 0 0) 55)) zeroEx; simpa using this
  · have := heap_alloc_new ((w.alloc (.cells (rdA v e i n 0 0) 55)).alloc zeroEx) zero6; simpa using this

abbrev put5w (w : World) (q : Nat) (a b c d e : Value) : World :=
  ((((w.setCell ⟨q, 0, none⟩ a).setCell ⟨q, 1, none⟩ b).setCell ⟨q, 2, none⟩ c).setCell ⟨q, 3, none⟩ d).setCell ⟨q, 4, none⟩ e
theorem put5_far {w : World} {q b : Nat} {a b' c d e : Value} (hb : b ≠ q) : (put5w w q a b' c d e).heap[b]? = w.heap[b]? := by
  simp only [put5w]; rw [set_far hb, set_far hb, set_far hb, set_far hb, set_far hb]
theorem put6_far {w : World} {q b : Nat} {a b' c d e f : Value} (hb : b ≠ q) : (put6w w q a b' c d e f).heap[b]? = w.heap[b]? := by
  simp only [put6w]; rw [set_far hb, set_far hb, set_far hb, set_far hb, set_far hb, set_far hb]
theorem put5_below {B : Nat} {w0 w : World} {q : Nat} (h : Below B w0 w) (hq : B ≤ q) (a b c d e : Value) : Below B w0 (put5w w q a b c d e) :=
  ((((h.setCell (p := ⟨q, 0, none⟩) hq _).setCell (p := ⟨q, 1, none⟩) hq _).setCell (p := ⟨q, 2, none⟩) hq _).setCell (p := ⟨q, 3, none⟩) hq _).setCell (p := ⟨q, 4, none⟩) hq _

/-- Behind both results' stores. -/
theorem ES.fin {w0 W : World} {v : Value} {e i n : Nat} (h : ES w0 W v e i n) (a0 a1 a2 a3 a4 r0 r1 r2 r3 r4 r5 : Value) :
    ((put6w (put5w W (w0.heap.size + 1) a0 a1 a2 a3 a4) (w0.heap.size + 1 + 1) r0 r1 r2 r3 r4 r5).heap[w0.heap.size + 1]? = some (.cells #[a0, a1, a2, a3, a4] 26 (0, 0)) ∧
      (put6w (put5w W (w0.heap.size + 1) a0 a1 a2 a3 a4) (w0.heap.size + 1 + 1) r0 r1 r2 r3 r4 r5).heap[w0.heap.size + 1 + 1]? = some (.cells #[r0, r1, r2, r3, r4, r5] 55 (0, 0))) ∧
    Below w0.heap.size w0 (put6w (put5w W (w0.heap.size + 1) a0 a1 a2 a3 a4) (w0.heap.size + 1 + 1) r0 r1 r2 r3 r4 r5) ∧
    ∀ b, b ≠ w0.heap.size + 1 → b ≠ w0.heap.size + 1 + 1 → (put6w (put5w W (w0.heap.size + 1) a0 a1 a2 a3 a4) (w0.heap.size + 1 + 1) r0 r1 r2 r3 r4 r5).heap[b]? = W.heap[b]? := by
  refine ⟨⟨?_, ?_⟩, put6_below (put5_below h.below (by omega) _ _ _ _ _) (by omega) _ _ _ _ _ _, fun b h1 h2 => (put6_far h2).trans (put5_far h1)⟩
  · rw [put6_far (by omega)]; exact put5 h.hx _ _ _ _ _
  · exact put6 ((put5_far (by omega)).trans h.hq) _ _ _ _ _ _
theorem drew_all {w0 W F : World} {p q B : Nat} {x y : Obj} (h1 : F.heap[p]? = some x) (h2 : F.heap[q]? = some y) (h3 : Below B w0 F) (h4 : ∀ b, b ≠ p → b ≠ q → F.heap[b]? = W.heap[b]?) :
    F.drew.heap[p]? = some x ∧ F.drew.heap[q]? = some y ∧ Below B w0 F.drew ∧ ∀ b, b ≠ p → b ≠ q → F.drew.heap[b]? = W.heap[b]? := ⟨h1, h2, h3.drew, h4⟩
theorem RInts_keep {G : Nat → Prop} {w w' : World} {S : Nat} {v : Value} {zs : List Int} (h : RInts (fun b => S ≤ b) w v zs) (hk : ∀ b, S ≤ b → b < w.heap.size → w'.heap[b]? = w.heap[b]?) (hG : ∀ b, S ≤ b → G b) : RInts G w' v zs :=
  RInts_mono (fun b o u hg hu => ⟨hG b hg, by rw [← hu]; exact World.cell?_of_block (hk b hg (World.block_lt_of_cell? w _ hu))⟩) h
theorem RArgs_keep {G : Nat → Prop} {w w' : World} {S : Nat} {v : Value} {zs : List Ex} (h : RArgs (fun b => S ≤ b) w v zs) (hk : ∀ b, S ≤ b → b < w.heap.size → w'.heap[b]? = w.heap[b]?) (hG : ∀ b, S ≤ b → G b) : RArgs G w' v zs :=
  RArgs_mono (fun b o u hg hu => ⟨hG b hg, by rw [← hu]; exact World.cell?_of_block (hk b hg (World.block_lt_of_cell? w _ hu))⟩) h

set_option maxRecDepth 100000 in
set_option maxHeartbeats 16000000 in
theorem f30_nil {ts : List Tok} {v : Value} {e B d n i : Nat} {w : World} (h : RD w v ts B) (ht : ts.drop i = []) :
    Calls Tryd.prog 30 #[.agg (rdA v e i n 0 0), .int .i64 d] w (RExprPost (.err 14 []) ts v e w) := by
  have hnot : ∀ (x : Bool) (w : World), (Op.unary .not (.bool x)).run Tryd.prog w = .ok (.bool (!x)) w := fun _ _ => rfl
  have hs := h.small
  obtain ⟨a, cap, rfl, hc1, hc2⟩ := h.form
  have HR := Lib.hid h; clear h
  have HE := Lib.hid (ES.start (w := w) (v := .slice a ts.length cap) (e := e) (i := i) (n := n))
  have h57 := f57_any (i := i) e n 0 0 (RD.later HR.out HE.out.below)
  rw [ht] at h57
  simp only [kindT] at h57
  go_enter Tryd.func30, Tryd.ntmps30
  go_wp2_with fail
  refine h57.mono ?_
  rintro en w1 ⟨rfl, hb1⟩
  have hes1 := HE.out.later hb1
  have hrd1 := RD.later HR.out hes1.below
  clear hb1 h57
  obtain ⟨⟨c0, c1, c2, c3, c4, c5⟩, ⟨f0, f1, f2, f3, f4, f5⟩, hpX⟩ := block6 hes1.hp
  have HES1 := Lib.hid hes1; clear hes1
  have h31 := f31_any (i := i) (e := e) n 14 hrd1
  rw [ht] at h31
  go_wp2_with fail
  refine h31.mono ?_
  rintro en wE ⟨rfl, hbE⟩
  have hesE := HES1.out.later hbE
  obtain ⟨⟨x0, x1, x2, x3, x4⟩, ⟨y0, y1, y2, y3, y4⟩, hx3⟩ := block5 hesE.hx
  obtain ⟨⟨d0, d1, d2, d3, d4, d5⟩, ⟨g0, g1, g2, g3, g4, g5⟩, hq3⟩ := block6 hesE.hq
  have HESE := Lib.hid hesE; clear hesE
  go_wp2_with fail
  have HF : Hid (∀ F, put6w (put5w wE (w.heap.size + 1) (.int .i64 0) (.string ⟨#[]⟩) (.int .i64 0) (.slice none 0 0) (.slice none 0 0)) (w.heap.size + 1 + 1) (.slice a ts.length cap) (.int .i64 e) (.int .i64 i) (.int .i64 n) (.int .i64 14) (.int .i64 (posT e [] : Nat)) = F →
      F.heap[w.heap.size + 1]? = some (.cells #[.int .i64 0, .string ⟨#[]⟩, .int .i64 0, .slice none 0 0, .slice none 0 0] 26 (0, 0)) ∧ F.heap[w.heap.size + 1 + 1]? = some (.cells (rdA (.slice a ts.length cap) e i n 14 (posT e [] : Nat)) 55 (0, 0)) ∧ Below w.heap.size w F) := Lib.hid (by
    rintro F rfl
    obtain ⟨⟨q1, q2⟩, q3, _⟩ := HESE.out.fin (.int .i64 0) (.string ⟨#[]⟩) (.int .i64 0) (.slice none 0 0) (.slice none 0 0) (.slice a ts.length cap) (.int .i64 e) (.int .i64 i) (.int .i64 n) (.int .i64 14) (.int .i64 (posT e [] : Nat))
    exact ⟨q1, q2, q3⟩)
  generalize hF : World.setCell _ _ _ = F
  obtain ⟨hfx, hfq, hfb⟩ := HF.out _ hF
  clear hF HF c0 c1 c2 c3 c4 c5 f0 f1 f2 f3 f4 f5 x0 x1 x2 x3 x4 y0 y1 y2 y3 y4 d0 d1 d2 d3 d4 d5 g0 g1 g2 g3 g4 g5
  obtain ⟨⟨x0, x1, x2, x3, x4⟩, -, -⟩ := block5 hfx
  obtain ⟨⟨d0, d1, d2, d3, d4, d5⟩, -, -⟩ := block6 hfq
  refine bodyPost_ret (v := .tuple #[.agg #[.int .i64 0, .string ⟨#[]⟩, .int .i64 0, .slice none 0 0, .slice none 0 0], .agg (rdA (.slice a ts.length cap) e i n 14 (posT e [] : Nat))]) (by simp [results, Tryd.results30, go_sem, x0, x1, x2, x3, x4, d0, d1, d2, d3, d4, d5]) rfl ?_
  exact ⟨⟨0, 0, n, [], i, rfl⟩, hfb⟩

set_option maxRecDepth 100000 in
set_option maxHeartbeats 16000000 in
theorem f30_sign {ts l : List Tok} {t : Tok} {v : Value} {e B d n i : Nat} {w : World} (h : RD w v ts B) (ht : ts.drop i = t :: l) (hk : t.kind = 3) (h91 : isS t 91 = false) :
    Calls Tryd.prog 30 #[.agg (rdA v e i n 0 0), .int .i64 d] w (RExprPost (.err 14 (t :: l)) ts v e w) := by
  have hnot : ∀ (x : Bool) (w : World), (Op.unary .not (.bool x)).run Tryd.prog w = .ok (.bool (!x)) w := fun _ _ => rfl
  have hs := h.small
  obtain ⟨a, cap, rfl, hc1, hc2⟩ := h.form
  have HR := Lib.hid h; clear h
  have HE := Lib.hid (ES.start (w := w) (v := .slice a ts.length cap) (e := e) (i := i) (n := n))
  have hlt := (drop_cons_at ht).1
  have h57 := f57_any (i := i) e n 0 0 (RD.later HR.out HE.out.below)
  rw [ht] at h57
  simp only [kindT, hk] at h57
  go_enter Tryd.func30, Tryd.ntmps30
  go_wp2_with fail
  refine h57.mono ?_
  rintro en w1 ⟨rfl, hb1⟩
  have hes1 := HE.out.later hb1
  have hrd1 := RD.later HR.out hes1.below
  clear hb1 h57
  obtain ⟨⟨c0, c1, c2, c3, c4, c5⟩, ⟨f0, f1, f2, f3, f4, f5⟩, hpX⟩ := block6 hes1.hp
  have HES1 := Lib.hid hes1; clear hes1
  have h58 := f58_any (i := i) 91 e n 0 0 hrd1
  rw [ht, show isT 91 (t :: l) = false from h91] at h58
  go_wp2_with fail
  refine h58.mono ?_
  rintro en w1 ⟨rfl, hb1⟩
  have hes1 := HES1.out.later hb1
  have hrd1 := RD.later HR.out hes1.below
  clear hb1 h58
  clear c0 c1 c2 c3 c4 c5 f0 f1 f2 f3 f4 f5
  obtain ⟨⟨c0, c1, c2, c3, c4, c5⟩, ⟨f0, f1, f2, f3, f4, f5⟩, hpX⟩ := block6 hes1.hp
  have HES1 := Lib.hid hes1; clear hes1
  have h31 := f31_any (i := i) (e := e) n 14 hrd1
  rw [ht] at h31
  go_wp2_with fail
  refine h31.mono ?_
  rintro en wE ⟨rfl, hbE⟩
  have hesE := HES1.out.later hbE
  obtain ⟨⟨x0, x1, x2, x3, x4⟩, ⟨y0, y1, y2, y3, y4⟩, hx3⟩ := block5 hesE.hx
  obtain ⟨⟨d0, d1, d2, d3, d4, d5⟩, ⟨g0, g1, g2, g3, g4, g5⟩, hq3⟩ := block6 hesE.hq
  have HESE := Lib.hid hesE; clear hesE
  go_wp2_with fail
  have HF : Hid (∀ F, put6w (put5w wE (w.heap.size + 1) (.int .i64 0) (.string ⟨#[]⟩) (.int .i64 0) (.slice none 0 0) (.slice none 0 0)) (w.heap.size + 1 + 1) (.slice a ts.length cap) (.int .i64 e) (.int .i64 i) (.int .i64 n) (.int .i64 14) (.int .i64 (posT e (t :: l) : Nat)) = F →
      F.heap[w.heap.size + 1]? = some (.cells #[.int .i64 0, .string ⟨#[]⟩, .int .i64 0, .slice none 0 0, .slice none 0 0] 26 (0, 0)) ∧ F.heap[w.heap.size + 1 + 1]? = some (.cells (rdA (.slice a ts.length cap) e i n 14 (posT e (t :: l) : Nat)) 55 (0, 0)) ∧ Below w.heap.size w F) := Lib.hid (by
    rintro F rfl
    obtain ⟨⟨q1, q2⟩, q3, _⟩ := HESE.out.fin (.int .i64 0) (.string ⟨#[]⟩) (.int .i64 0) (.slice none 0 0) (.slice none 0 0) (.slice a ts.length cap) (.int .i64 e) (.int .i64 i) (.int .i64 n) (.int .i64 14) (.int .i64 (posT e (t :: l) : Nat))
    exact ⟨q1, q2, q3⟩)
  generalize hF : World.setCell _ _ _ = F
  obtain ⟨hfx, hfq, hfb⟩ := HF.out _ hF
  clear hF HF c0 c1 c2 c3 c4 c5 f0 f1 f2 f3 f4 f5 x0 x1 x2 x3 x4 y0 y1 y2 y3 y4 d0 d1 d2 d3 d4 d5 g0 g1 g2 g3 g4 g5
  obtain ⟨⟨x0, x1, x2, x3, x4⟩, -, -⟩ := block5 hfx
  obtain ⟨⟨d0, d1, d2, d3, d4, d5⟩, -, -⟩ := block6 hfq
  refine bodyPost_ret (v := .tuple #[.agg #[.int .i64 0, .string ⟨#[]⟩, .int .i64 0, .slice none 0 0, .slice none 0 0], .agg (rdA (.slice a ts.length cap) e i n 14 (posT e (t :: l) : Nat))]) (by simp [results, Tryd.results30, go_sem, x0, x1, x2, x3, x4, d0, d1, d2, d3, d4, d5]) rfl ?_
  exact ⟨⟨0, 0, n, [], i, rfl⟩, hfb⟩

set_option maxRecDepth 100000 in
set_option maxHeartbeats 16000000 in
theorem f30_deepd1 {ts l : List Tok} {t : Tok} {v : Value} {e B d n i : Nat} {w : World} (hd : d ≤ 33) (h : RD w v ts B) (ht : ts.drop i = t :: l) (hk : t.kind = 1) (hdd : 32 < d) :
    Calls Tryd.prog 30 #[.agg (rdA v e i n 0 0), .int .i64 d] w (RExprPost (.err 8 (t :: l)) ts v e w) := by
  have hnot : ∀ (x : Bool) (w : World), (Op.unary .not (.bool x)).run Tryd.prog w = .ok (.bool (!x)) w := fun _ _ => rfl
  have hs := h.small
  obtain ⟨a, cap, rfl, hc1, hc2⟩ := h.form
  have HR := Lib.hid h; clear h
  have HE := Lib.hid (ES.start (w := w) (v := .slice a ts.length cap) (e := e) (i := i) (n := n))
  have hlt := (drop_cons_at ht).1
  have h57 := f57_any (i := i) e n 0 0 (RD.later HR.out HE.out.below)
  rw [ht] at h57
  simp only [kindT, hk] at h57
  go_enter Tryd.func30, Tryd.ntmps30
  go_wp2_with fail
  refine h57.mono ?_
  rintro en w1 ⟨rfl, hb1⟩
  have hes1 := HE.out.later hb1
  have hrd1 := RD.later HR.out hes1.below
  clear hb1 h57
  obtain ⟨⟨c0, c1, c2, c3, c4, c5⟩, ⟨f0, f1, f2, f3, f4, f5⟩, hpX⟩ := block6 hes1.hp
  have HES1 := Lib.hid hes1; clear hes1
  have h31 := f31_any (i := i) (e := e) n 8 hrd1
  rw [ht] at h31
  go_wp2_with fail
  refine h31.mono ?_
  rintro en wE ⟨rfl, hbE⟩
  have hesE := HES1.out.later hbE
  obtain ⟨⟨x0, x1, x2, x3, x4⟩, ⟨y0, y1, y2, y3, y4⟩, hx3⟩ := block5 hesE.hx
  obtain ⟨⟨d0, d1, d2, d3, d4, d5⟩, ⟨g0, g1, g2, g3, g4, g5⟩, hq3⟩ := block6 hesE.hq
  have HESE := Lib.hid hesE; clear hesE
  go_wp2_with fail
  have HF : Hid (∀ F, put6w (put5w wE (w.heap.size + 1) (.int .i64 0) (.string ⟨#[]⟩) (.int .i64 0) (.slice none 0 0) (.slice none 0 0)) (w.heap.size + 1 + 1) (.slice a ts.length cap) (.int .i64 e) (.int .i64 i) (.int .i64 n) (.int .i64 8) (.int .i64 (posT e (t :: l) : Nat)) = F →
      F.heap[w.heap.size + 1]? = some (.cells #[.int .i64 0, .string ⟨#[]⟩, .int .i64 0, .slice none 0 0, .slice none 0 0] 26 (0, 0)) ∧ F.heap[w.heap.size + 1 + 1]? = some (.cells (rdA (.slice a ts.length cap) e i n 8 (posT e (t :: l) : Nat)) 55 (0, 0)) ∧ Below w.heap.size w F) := Lib.hid (by
    rintro F rfl
    obtain ⟨⟨q1, q2⟩, q3, _⟩ := HESE.out.fin (.int .i64 0) (.string ⟨#[]⟩) (.int .i64 0) (.slice none 0 0) (.slice none 0 0) (.slice a ts.length cap) (.int .i64 e) (.int .i64 i) (.int .i64 n) (.int .i64 8) (.int .i64 (posT e (t :: l) : Nat))
    exact ⟨q1, q2, q3⟩)
  generalize hF : World.setCell _ _ _ = F
  obtain ⟨hfx, hfq, hfb⟩ := HF.out _ hF
  clear hF HF c0 c1 c2 c3 c4 c5 f0 f1 f2 f3 f4 f5 x0 x1 x2 x3 x4 y0 y1 y2 y3 y4 d0 d1 d2 d3 d4 d5 g0 g1 g2 g3 g4 g5
  obtain ⟨⟨x0, x1, x2, x3, x4⟩, -, -⟩ := block5 hfx
  obtain ⟨⟨d0, d1, d2, d3, d4, d5⟩, -, -⟩ := block6 hfq
  refine bodyPost_ret (v := .tuple #[.agg #[.int .i64 0, .string ⟨#[]⟩, .int .i64 0, .slice none 0 0, .slice none 0 0], .agg (rdA (.slice a ts.length cap) e i n 8 (posT e (t :: l) : Nat))]) (by simp [results, Tryd.results30, go_sem, x0, x1, x2, x3, x4, d0, d1, d2, d3, d4, d5]) rfl ?_
  exact ⟨⟨0, 0, n, [], i, rfl⟩, hfb⟩

set_option maxRecDepth 100000 in
set_option maxHeartbeats 16000000 in
theorem f30_deepn1 {ts l : List Tok} {t : Tok} {v : Value} {e B d n i : Nat} {w : World} (hd : d ≤ 32) (h : RD w v ts B) (ht : ts.drop i = t :: l) (hk : t.kind = 1) (hnn : n = 1024) :
    Calls Tryd.prog 30 #[.agg (rdA v e i n 0 0), .int .i64 d] w (RExprPost (.err 8 (t :: l)) ts v e w) := by
  subst hnn
  have hnot : ∀ (x : Bool) (w : World), (Op.unary .not (.bool x)).run Tryd.prog w = .ok (.bool (!x)) w := fun _ _ => rfl
  have hs := h.small
  obtain ⟨a, cap, rfl, hc1, hc2⟩ := h.form
  have HR := Lib.hid h; clear h
  have HE := Lib.hid (ES.start (w := w) (v := .slice a ts.length cap) (e := e) (i := i) (n := 1024))
  have hlt := (drop_cons_at ht).1
  have h57 := f57_any (i := i) e (1024 : Nat) 0 0 (RD.later HR.out HE.out.below)
  rw [ht] at h57
  simp only [kindT, hk] at h57
  go_enter Tryd.func30, Tryd.ntmps30
  go_wp2_with fail
  refine h57.mono ?_
  rintro en w1 ⟨rfl, hb1⟩
  have hes1 := HE.out.later hb1
  have hrd1 := RD.later HR.out hes1.below
  clear hb1 h57
  obtain ⟨⟨c0, c1, c2, c3, c4, c5⟩, ⟨f0, f1, f2, f3, f4, f5⟩, hpX⟩ := block6 hes1.hp
  have HES1 := Lib.hid hes1; clear hes1
  have h31 := f31_any (i := i) (e := e) (1024 : Nat) 8 hrd1
  rw [ht] at h31
  go_wp2_with fail
  refine h31.mono ?_
  rintro en wE ⟨rfl, hbE⟩
  have hesE := HES1.out.later hbE
  obtain ⟨⟨x0, x1, x2, x3, x4⟩, ⟨y0, y1, y2, y3, y4⟩, hx3⟩ := block5 hesE.hx
  obtain ⟨⟨d0, d1, d2, d3, d4, d5⟩, ⟨g0, g1, g2, g3, g4, g5⟩, hq3⟩ := block6 hesE.hq
  have HESE := Lib.hid hesE; clear hesE
  go_wp2_with fail
  have HF : Hid (∀ F, put6w (put5w wE (w.heap.size + 1) (.int .i64 0) (.string ⟨#[]⟩) (.int .i64 0) (.slice none 0 0) (.slice none 0 0)) (w.heap.size + 1 + 1) (.slice a ts.length cap) (.int .i64 e) (.int .i64 i) (.int .i64 (1024 : Nat)) (.int .i64 8) (.int .i64 (posT e (t :: l) : Nat)) = F →
      F.heap[w.heap.size + 1]? = some (.cells #[.int .i64 0, .string ⟨#[]⟩, .int .i64 0, .slice none 0 0, .slice none 0 0] 26 (0, 0)) ∧ F.heap[w.heap.size + 1 + 1]? = some (.cells (rdA (.slice a ts.length cap) e i (1024 : Nat) 8 (posT e (t :: l) : Nat)) 55 (0, 0)) ∧ Below w.heap.size w F) := Lib.hid (by
    rintro F rfl
    obtain ⟨⟨q1, q2⟩, q3, _⟩ := HESE.out.fin (.int .i64 0) (.string ⟨#[]⟩) (.int .i64 0) (.slice none 0 0) (.slice none 0 0) (.slice a ts.length cap) (.int .i64 e) (.int .i64 i) (.int .i64 (1024 : Nat)) (.int .i64 8) (.int .i64 (posT e (t :: l) : Nat))
    exact ⟨q1, q2, q3⟩)
  generalize hF : World.setCell _ _ _ = F
  obtain ⟨hfx, hfq, hfb⟩ := HF.out _ hF
  clear hF HF c0 c1 c2 c3 c4 c5 f0 f1 f2 f3 f4 f5 x0 x1 x2 x3 x4 y0 y1 y2 y3 y4 d0 d1 d2 d3 d4 d5 g0 g1 g2 g3 g4 g5
  obtain ⟨⟨x0, x1, x2, x3, x4⟩, -, -⟩ := block5 hfx
  obtain ⟨⟨d0, d1, d2, d3, d4, d5⟩, -, -⟩ := block6 hfq
  refine bodyPost_ret (v := .tuple #[.agg #[.int .i64 0, .string ⟨#[]⟩, .int .i64 0, .slice none 0 0, .slice none 0 0], .agg (rdA (.slice a ts.length cap) e i (1024 : Nat) 8 (posT e (t :: l) : Nat))]) (by simp [results, Tryd.results30, go_sem, x0, x1, x2, x3, x4, d0, d1, d2, d3, d4, d5]) rfl ?_
  exact ⟨⟨0, 0, (1024 : Nat), [], i, rfl⟩, hfb⟩

set_option maxRecDepth 100000 in
set_option maxHeartbeats 16000000 in
theorem f30_deepd2 {ts l : List Tok} {t : Tok} {v : Value} {e B d n i : Nat} {w : World} (hd : d ≤ 33) (h : RD w v ts B) (ht : ts.drop i = t :: l) (hk : t.kind = 2) (hdd : 32 < d) :
    Calls Tryd.prog 30 #[.agg (rdA v e i n 0 0), .int .i64 d] w (RExprPost (.err 8 (t :: l)) ts v e w) := by
  have hnot : ∀ (x : Bool) (w : World), (Op.unary .not (.bool x)).run Tryd.prog w = .ok (.bool (!x)) w := fun _ _ => rfl
  have hs := h.small
  obtain ⟨a, cap, rfl, hc1, hc2⟩ := h.form
  have HR := Lib.hid h; clear h
  have HE := Lib.hid (ES.start (w := w) (v := .slice a ts.length cap) (e := e) (i := i) (n := n))
  have hlt := (drop_cons_at ht).1
  have h57 := f57_any (i := i) e n 0 0 (RD.later HR.out HE.out.below)
  rw [ht] at h57
  simp only [kindT, hk] at h57
  go_enter Tryd.func30, Tryd.ntmps30
  go_wp2_with fail
  refine h57.mono ?_
  rintro en w1 ⟨rfl, hb1⟩
  have hes1 := HE.out.later hb1
  have hrd1 := RD.later HR.out hes1.below
  clear hb1 h57
  obtain ⟨⟨c0, c1, c2, c3, c4, c5⟩, ⟨f0, f1, f2, f3, f4, f5⟩, hpX⟩ := block6 hes1.hp
  have HES1 := Lib.hid hes1; clear hes1
  have h31 := f31_any (i := i) (e := e) n 8 hrd1
  rw [ht] at h31
  go_wp2_with fail
  refine h31.mono ?_
  rintro en wE ⟨rfl, hbE⟩
  have hesE := HES1.out.later hbE
  obtain ⟨⟨x0, x1, x2, x3, x4⟩, ⟨y0, y1, y2, y3, y4⟩, hx3⟩ := block5 hesE.hx
  obtain ⟨⟨d0, d1, d2, d3, d4, d5⟩, ⟨g0, g1, g2, g3, g4, g5⟩, hq3⟩ := block6 hesE.hq
  have HESE := Lib.hid hesE; clear hesE
  go_wp2_with fail
  have HF : Hid (∀ F, put6w (put5w wE (w.heap.size + 1) (.int .i64 0) (.string ⟨#[]⟩) (.int .i64 0) (.slice none 0 0) (.slice none 0 0)) (w.heap.size + 1 + 1) (.slice a ts.length cap) (.int .i64 e) (.int .i64 i) (.int .i64 n) (.int .i64 8) (.int .i64 (posT e (t :: l) : Nat)) = F →
      F.heap[w.heap.size + 1]? = some (.cells #[.int .i64 0, .string ⟨#[]⟩, .int .i64 0, .slice none 0 0, .slice none 0 0] 26 (0, 0)) ∧ F.heap[w.heap.size + 1 + 1]? = some (.cells (rdA (.slice a ts.length cap) e i n 8 (posT e (t :: l) : Nat)) 55 (0, 0)) ∧ Below w.heap.size w F) := Lib.hid (by
    rintro F rfl
    obtain ⟨⟨q1, q2⟩, q3, _⟩ := HESE.out.fin (.int .i64 0) (.string ⟨#[]⟩) (.int .i64 0) (.slice none 0 0) (.slice none 0 0) (.slice a ts.length cap) (.int .i64 e) (.int .i64 i) (.int .i64 n) (.int .i64 8) (.int .i64 (posT e (t :: l) : Nat))
    exact ⟨q1, q2, q3⟩)
  generalize hF : World.setCell _ _ _ = F
  obtain ⟨hfx, hfq, hfb⟩ := HF.out _ hF
  clear hF HF c0 c1 c2 c3 c4 c5 f0 f1 f2 f3 f4 f5 x0 x1 x2 x3 x4 y0 y1 y2 y3 y4 d0 d1 d2 d3 d4 d5 g0 g1 g2 g3 g4 g5
  obtain ⟨⟨x0, x1, x2, x3, x4⟩, -, -⟩ := block5 hfx
  obtain ⟨⟨d0, d1, d2, d3, d4, d5⟩, -, -⟩ := block6 hfq
  refine bodyPost_ret (v := .tuple #[.agg #[.int .i64 0, .string ⟨#[]⟩, .int .i64 0, .slice none 0 0, .slice none 0 0], .agg (rdA (.slice a ts.length cap) e i n 8 (posT e (t :: l) : Nat))]) (by simp [results, Tryd.results30, go_sem, x0, x1, x2, x3, x4, d0, d1, d2, d3, d4, d5]) rfl ?_
  exact ⟨⟨0, 0, n, [], i, rfl⟩, hfb⟩

set_option maxRecDepth 100000 in
set_option maxHeartbeats 16000000 in
theorem f30_deepn2 {ts l : List Tok} {t : Tok} {v : Value} {e B d n i : Nat} {w : World} (hd : d ≤ 32) (h : RD w v ts B) (ht : ts.drop i = t :: l) (hk : t.kind = 2) (hnn : n = 1024) :
    Calls Tryd.prog 30 #[.agg (rdA v e i n 0 0), .int .i64 d] w (RExprPost (.err 8 (t :: l)) ts v e w) := by
  subst hnn
  have hnot : ∀ (x : Bool) (w : World), (Op.unary .not (.bool x)).run Tryd.prog w = .ok (.bool (!x)) w := fun _ _ => rfl
  have hs := h.small
  obtain ⟨a, cap, rfl, hc1, hc2⟩ := h.form
  have HR := Lib.hid h; clear h
  have HE := Lib.hid (ES.start (w := w) (v := .slice a ts.length cap) (e := e) (i := i) (n := 1024))
  have hlt := (drop_cons_at ht).1
  have h57 := f57_any (i := i) e (1024 : Nat) 0 0 (RD.later HR.out HE.out.below)
  rw [ht] at h57
  simp only [kindT, hk] at h57
  go_enter Tryd.func30, Tryd.ntmps30
  go_wp2_with fail
  refine h57.mono ?_
  rintro en w1 ⟨rfl, hb1⟩
  have hes1 := HE.out.later hb1
  have hrd1 := RD.later HR.out hes1.below
  clear hb1 h57
  obtain ⟨⟨c0, c1, c2, c3, c4, c5⟩, ⟨f0, f1, f2, f3, f4, f5⟩, hpX⟩ := block6 hes1.hp
  have HES1 := Lib.hid hes1; clear hes1
  have h31 := f31_any (i := i) (e := e) (1024 : Nat) 8 hrd1
  rw [ht] at h31
  go_wp2_with fail
  refine h31.mono ?_
  rintro en wE ⟨rfl, hbE⟩
  have hesE := HES1.out.later hbE
  obtain ⟨⟨x0, x1, x2, x3, x4⟩, ⟨y0, y1, y2, y3, y4⟩, hx3⟩ := block5 hesE.hx
  obtain ⟨⟨d0, d1, d2, d3, d4, d5⟩, ⟨g0, g1, g2, g3, g4, g5⟩, hq3⟩ := block6 hesE.hq
  have HESE := Lib.hid hesE; clear hesE
  go_wp2_with fail
  have HF : Hid (∀ F, put6w (put5w wE (w.heap.size + 1) (.int .i64 0) (.string ⟨#[]⟩) (.int .i64 0) (.slice none 0 0) (.slice none 0 0)) (w.heap.size + 1 + 1) (.slice a ts.length cap) (.int .i64 e) (.int .i64 i) (.int .i64 (1024 : Nat)) (.int .i64 8) (.int .i64 (posT e (t :: l) : Nat)) = F →
      F.heap[w.heap.size + 1]? = some (.cells #[.int .i64 0, .string ⟨#[]⟩, .int .i64 0, .slice none 0 0, .slice none 0 0] 26 (0, 0)) ∧ F.heap[w.heap.size + 1 + 1]? = some (.cells (rdA (.slice a ts.length cap) e i (1024 : Nat) 8 (posT e (t :: l) : Nat)) 55 (0, 0)) ∧ Below w.heap.size w F) := Lib.hid (by
    rintro F rfl
    obtain ⟨⟨q1, q2⟩, q3, _⟩ := HESE.out.fin (.int .i64 0) (.string ⟨#[]⟩) (.int .i64 0) (.slice none 0 0) (.slice none 0 0) (.slice a ts.length cap) (.int .i64 e) (.int .i64 i) (.int .i64 (1024 : Nat)) (.int .i64 8) (.int .i64 (posT e (t :: l) : Nat))
    exact ⟨q1, q2, q3⟩)
  generalize hF : World.setCell _ _ _ = F
  obtain ⟨hfx, hfq, hfb⟩ := HF.out _ hF
  clear hF HF c0 c1 c2 c3 c4 c5 f0 f1 f2 f3 f4 f5 x0 x1 x2 x3 x4 y0 y1 y2 y3 y4 d0 d1 d2 d3 d4 d5 g0 g1 g2 g3 g4 g5
  obtain ⟨⟨x0, x1, x2, x3, x4⟩, -, -⟩ := block5 hfx
  obtain ⟨⟨d0, d1, d2, d3, d4, d5⟩, -, -⟩ := block6 hfq
  refine bodyPost_ret (v := .tuple #[.agg #[.int .i64 0, .string ⟨#[]⟩, .int .i64 0, .slice none 0 0, .slice none 0 0], .agg (rdA (.slice a ts.length cap) e i (1024 : Nat) 8 (posT e (t :: l) : Nat))]) (by simp [results, Tryd.results30, go_sem, x0, x1, x2, x3, x4, d0, d1, d2, d3, d4, d5]) rfl ?_
  exact ⟨⟨0, 0, (1024 : Nat), [], i, rfl⟩, hfb⟩

set_option maxRecDepth 100000 in
set_option maxHeartbeats 16000000 in
theorem f30_deepd3 {ts l : List Tok} {t : Tok} {v : Value} {e B d n i : Nat} {w : World} (hd : d ≤ 33) (h : RD w v ts B) (ht : ts.drop i = t :: l) (hk : t.kind = 3) (h91 : isS t 91 = true) (hdd : 32 < d) :
    Calls Tryd.prog 30 #[.agg (rdA v e i n 0 0), .int .i64 d] w (RExprPost (.err 8 (t :: l)) ts v e w) := by
  have hnot : ∀ (x : Bool) (w : World), (Op.unary .not (.bool x)).run Tryd.prog w = .ok (.bool (!x)) w := fun _ _ => rfl
  have hs := h.small
  obtain ⟨a, cap, rfl, hc1, hc2⟩ := h.form
  have HR := Lib.hid h; clear h
  have HE := Lib.hid (ES.start (w := w) (v := .slice a ts.length cap) (e := e) (i := i) (n := n))
  have hlt := (drop_cons_at ht).1
  have h57 := f57_any (i := i) e n 0 0 (RD.later HR.out HE.out.below)
  rw [ht] at h57
  simp only [kindT, hk] at h57
  go_enter Tryd.func30, Tryd.ntmps30
  go_wp2_with fail
  refine h57.mono ?_
  rintro en w1 ⟨rfl, hb1⟩
  have hes1 := HE.out.later hb1
  have hrd1 := RD.later HR.out hes1.below
  clear hb1 h57
  obtain ⟨⟨c0, c1, c2, c3, c4, c5⟩, ⟨f0, f1, f2, f3, f4, f5⟩, hpX⟩ := block6 hes1.hp
  have HES1 := Lib.hid hes1; clear hes1
  have h58 := f58_any (i := i) 91 e n 0 0 hrd1
  rw [ht, show isT 91 (t :: l) = true from h91] at h58
  go_wp2_with fail
  refine h58.mono ?_
  rintro en w1 ⟨rfl, hb1⟩
  have hes1 := HES1.out.later hb1
  have hrd1 := RD.later HR.out hes1.below
  clear hb1 h58
  clear c0 c1 c2 c3 c4 c5 f0 f1 f2 f3 f4 f5
  obtain ⟨⟨c0, c1, c2, c3, c4, c5⟩, ⟨f0, f1, f2, f3, f4, f5⟩, hpX⟩ := block6 hes1.hp
  have HES1 := Lib.hid hes1; clear hes1
  have h31 := f31_any (i := i) (e := e) n 8 hrd1
  rw [ht] at h31
  go_wp2_with fail
  refine h31.mono ?_
  rintro en wE ⟨rfl, hbE⟩
  have hesE := HES1.out.later hbE
  obtain ⟨⟨x0, x1, x2, x3, x4⟩, ⟨y0, y1, y2, y3, y4⟩, hx3⟩ := block5 hesE.hx
  obtain ⟨⟨d0, d1, d2, d3, d4, d5⟩, ⟨g0, g1, g2, g3, g4, g5⟩, hq3⟩ := block6 hesE.hq
  have HESE := Lib.hid hesE; clear hesE
  go_wp2_with fail
  have HF : Hid (∀ F, put6w (put5w wE (w.heap.size + 1) (.int .i64 0) (.string ⟨#[]⟩) (.int .i64 0) (.slice none 0 0) (.slice none 0 0)) (w.heap.size + 1 + 1) (.slice a ts.length cap) (.int .i64 e) (.int .i64 i) (.int .i64 n) (.int .i64 8) (.int .i64 (posT e (t :: l) : Nat)) = F →
      F.heap[w.heap.size + 1]? = some (.cells #[.int .i64 0, .string ⟨#[]⟩, .int .i64 0, .slice none 0 0, .slice none 0 0] 26 (0, 0)) ∧ F.heap[w.heap.size + 1 + 1]? = some (.cells (rdA (.slice a ts.length cap) e i n 8 (posT e (t :: l) : Nat)) 55 (0, 0)) ∧ Below w.heap.size w F) := Lib.hid (by
    rintro F rfl
    obtain ⟨⟨q1, q2⟩, q3, _⟩ := HESE.out.fin (.int .i64 0) (.string ⟨#[]⟩) (.int .i64 0) (.slice none 0 0) (.slice none 0 0) (.slice a ts.length cap) (.int .i64 e) (.int .i64 i) (.int .i64 n) (.int .i64 8) (.int .i64 (posT e (t :: l) : Nat))
    exact ⟨q1, q2, q3⟩)
  generalize hF : World.setCell _ _ _ = F
  obtain ⟨hfx, hfq, hfb⟩ := HF.out _ hF
  clear hF HF c0 c1 c2 c3 c4 c5 f0 f1 f2 f3 f4 f5 x0 x1 x2 x3 x4 y0 y1 y2 y3 y4 d0 d1 d2 d3 d4 d5 g0 g1 g2 g3 g4 g5
  obtain ⟨⟨x0, x1, x2, x3, x4⟩, -, -⟩ := block5 hfx
  obtain ⟨⟨d0, d1, d2, d3, d4, d5⟩, -, -⟩ := block6 hfq
  refine bodyPost_ret (v := .tuple #[.agg #[.int .i64 0, .string ⟨#[]⟩, .int .i64 0, .slice none 0 0, .slice none 0 0], .agg (rdA (.slice a ts.length cap) e i n 8 (posT e (t :: l) : Nat))]) (by simp [results, Tryd.results30, go_sem, x0, x1, x2, x3, x4, d0, d1, d2, d3, d4, d5]) rfl ?_
  exact ⟨⟨0, 0, n, [], i, rfl⟩, hfb⟩

set_option maxRecDepth 100000 in
set_option maxHeartbeats 16000000 in
theorem f30_deepn3 {ts l : List Tok} {t : Tok} {v : Value} {e B d n i : Nat} {w : World} (hd : d ≤ 32) (h : RD w v ts B) (ht : ts.drop i = t :: l) (hk : t.kind = 3) (h91 : isS t 91 = true) (hnn : n = 1024) :
    Calls Tryd.prog 30 #[.agg (rdA v e i n 0 0), .int .i64 d] w (RExprPost (.err 8 (t :: l)) ts v e w) := by
  subst hnn
  have hnot : ∀ (x : Bool) (w : World), (Op.unary .not (.bool x)).run Tryd.prog w = .ok (.bool (!x)) w := fun _ _ => rfl
  have hs := h.small
  obtain ⟨a, cap, rfl, hc1, hc2⟩ := h.form
  have HR := Lib.hid h; clear h
  have HE := Lib.hid (ES.start (w := w) (v := .slice a ts.length cap) (e := e) (i := i) (n := 1024))
  have hlt := (drop_cons_at ht).1
  have h57 := f57_any (i := i) e (1024 : Nat) 0 0 (RD.later HR.out HE.out.below)
  rw [ht] at h57
  simp only [kindT, hk] at h57
  go_enter Tryd.func30, Tryd.ntmps30
  go_wp2_with fail
  refine h57.mono ?_
  rintro en w1 ⟨rfl, hb1⟩
  have hes1 := HE.out.later hb1
  have hrd1 := RD.later HR.out hes1.below
  clear hb1 h57
  obtain ⟨⟨c0, c1, c2, c3, c4, c5⟩, ⟨f0, f1, f2, f3, f4, f5⟩, hpX⟩ := block6 hes1.hp
  have HES1 := Lib.hid hes1; clear hes1
  have h58 := f58_any (i := i) 91 e (1024 : Nat) 0 0 hrd1
  rw [ht, show isT 91 (t :: l) = true from h91] at h58
  go_wp2_with fail
  refine h58.mono ?_
  rintro en w1 ⟨rfl, hb1⟩
  have hes1 := HES1.out.later hb1
  have hrd1 := RD.later HR.out hes1.below
  clear hb1 h58
  clear c0 c1 c2 c3 c4 c5 f0 f1 f2 f3 f4 f5
  obtain ⟨⟨c0, c1, c2, c3, c4, c5⟩, ⟨f0, f1, f2, f3, f4, f5⟩, hpX⟩ := block6 hes1.hp
  have HES1 := Lib.hid hes1; clear hes1
  have h31 := f31_any (i := i) (e := e) (1024 : Nat) 8 hrd1
  rw [ht] at h31
  go_wp2_with fail
  refine h31.mono ?_
  rintro en wE ⟨rfl, hbE⟩
  have hesE := HES1.out.later hbE
  obtain ⟨⟨x0, x1, x2, x3, x4⟩, ⟨y0, y1, y2, y3, y4⟩, hx3⟩ := block5 hesE.hx
  obtain ⟨⟨d0, d1, d2, d3, d4, d5⟩, ⟨g0, g1, g2, g3, g4, g5⟩, hq3⟩ := block6 hesE.hq
  have HESE := Lib.hid hesE; clear hesE
  go_wp2_with fail
  have HF : Hid (∀ F, put6w (put5w wE (w.heap.size + 1) (.int .i64 0) (.string ⟨#[]⟩) (.int .i64 0) (.slice none 0 0) (.slice none 0 0)) (w.heap.size + 1 + 1) (.slice a ts.length cap) (.int .i64 e) (.int .i64 i) (.int .i64 (1024 : Nat)) (.int .i64 8) (.int .i64 (posT e (t :: l) : Nat)) = F →
      F.heap[w.heap.size + 1]? = some (.cells #[.int .i64 0, .string ⟨#[]⟩, .int .i64 0, .slice none 0 0, .slice none 0 0] 26 (0, 0)) ∧ F.heap[w.heap.size + 1 + 1]? = some (.cells (rdA (.slice a ts.length cap) e i (1024 : Nat) 8 (posT e (t :: l) : Nat)) 55 (0, 0)) ∧ Below w.heap.size w F) := Lib.hid (by
    rintro F rfl
    obtain ⟨⟨q1, q2⟩, q3, _⟩ := HESE.out.fin (.int .i64 0) (.string ⟨#[]⟩) (.int .i64 0) (.slice none 0 0) (.slice none 0 0) (.slice a ts.length cap) (.int .i64 e) (.int .i64 i) (.int .i64 (1024 : Nat)) (.int .i64 8) (.int .i64 (posT e (t :: l) : Nat))
    exact ⟨q1, q2, q3⟩)
  generalize hF : World.setCell _ _ _ = F
  obtain ⟨hfx, hfq, hfb⟩ := HF.out _ hF
  clear hF HF c0 c1 c2 c3 c4 c5 f0 f1 f2 f3 f4 f5 x0 x1 x2 x3 x4 y0 y1 y2 y3 y4 d0 d1 d2 d3 d4 d5 g0 g1 g2 g3 g4 g5
  obtain ⟨⟨x0, x1, x2, x3, x4⟩, -, -⟩ := block5 hfx
  obtain ⟨⟨d0, d1, d2, d3, d4, d5⟩, -, -⟩ := block6 hfq
  refine bodyPost_ret (v := .tuple #[.agg #[.int .i64 0, .string ⟨#[]⟩, .int .i64 0, .slice none 0 0, .slice none 0 0], .agg (rdA (.slice a ts.length cap) e i (1024 : Nat) 8 (posT e (t :: l) : Nat))]) (by simp [results, Tryd.results30, go_sem, x0, x1, x2, x3, x4, d0, d1, d2, d3, d4, d5]) rfl ?_
  exact ⟨⟨0, 0, (1024 : Nat), [], i, rfl⟩, hfb⟩

set_option maxRecDepth 100000 in
set_option maxHeartbeats 16000000 in
theorem f30_num {ts l : List Tok} {t : Tok} {v : Value} {e B d n i : Nat} {w : World} (hd : d ≤ 32) (hn : n ≤ 1024) (hn2 : n ≠ 1024) (h : RD w v ts B) (ht : ts.drop i = t :: l) (hk : t.kind = 2) :
    Calls Tryd.prog 30 #[.agg (rdA v e i n 0 0), .int .i64 d] w (RExprPost (.ok [.mk 1 [] t.n [] []] (n + 1) l) ts v e w) := by
  have hnot : ∀ (x : Bool) (w : World), (Op.unary .not (.bool x)).run Tryd.prog w = .ok (.bool (!x)) w := fun _ _ => rfl
  have hs := h.small
  obtain ⟨a, cap, rfl, hc1, hc2⟩ := h.form
  have HR := Lib.hid h; clear h
  have HE := Lib.hid (ES.start (w := w) (v := .slice a ts.length cap) (e := e) (i := i) (n := n))
  have hlt := (drop_cons_at ht).1
  have h57 := f57_any (i := i) e n 0 0 (RD.later HR.out HE.out.below)
  rw [ht] at h57
  simp only [kindT, hk] at h57
  go_enter Tryd.func30, Tryd.ntmps30
  go_wp2_with fail
  refine h57.mono ?_
  rintro en w1 ⟨rfl, hb1⟩
  have hes1 := HE.out.later hb1
  have hrd1 := RD.later HR.out hes1.below
  clear hb1 h57
  obtain ⟨⟨c0, c1, c2, c3, c4, c5⟩, ⟨f0, f1, f2, f3, f4, f5⟩, hpX⟩ := block6 hes1.hp
  have HES1 := Lib.hid hes1; clear hes1
  have hn3 : ((n : Int) == 1024) = false := by simpa using (show ¬ (n : Int) = 1024 by omega)
  go_upto_region 7 with fail
  have hes2 := HES1.out.setN (n + 1)
  rw [show ((n + 1 : Nat) : Int) = (n : Int) + 1 by omega] at hes2
  have HF2 : Hid (∀ W2, w1.setCell ⟨w.heap.size, 3, none⟩ (.int .i64 ((n : Int) + 1)) = W2 → ES w W2 (.slice a ts.length cap) e i (n + 1)) := Lib.hid (by rintro W2 rfl; exact hes2)
  clear hes2
  generalize hW2 : World.setCell w1 _ _ = W2
  have hes2 := HF2.out _ hW2
  clear hW2 HF2 c0 c1 c2 c3 c4 c5 f0 f1 f2 f3 f4 f5
  obtain ⟨⟨c0, c1, c2, c3, c4, c5⟩, ⟨f0, f1, f2, f3, f4, f5⟩, hpX⟩ := block6 hes2.hp
  have hrd2 := RD.later HR.out hes2.below
  obtain ⟨g, rfl, hg, _, k0, k1, k2, k3⟩ := hrd2.here ht
  have HES2 := Lib.hid hes2; clear hes2
  go_upto_region 9 with fail
  have HF3 : Hid (∀ O W3, (W2.setCell ⟨w.heap.size, 2, none⟩ (.int .i64 ((i : Int) + 1))).alloc O = W3 → ES w W3 (.slice (some ⟨g, 0, none⟩) ts.length cap) e (i + 1) (n + 1) ∧ W3.heap[W2.heap.size]? = some O) := Lib.hid (by
    rintro O W3 rfl
    have h1 := HES2.out.setI (i + 1)
    rw [show ((i + 1 : Nat) : Int) = (i : Int) + 1 by omega] at h1
    refine ⟨h1.later ((Below.refl _ _).alloc (Nat.le_refl _) _), ?_⟩
    have := heap_alloc_new (W2.setCell ⟨w.heap.size, 2, none⟩ (.int .i64 ((i : Int) + 1))) O; simpa using this)
  generalize hW3 : World.alloc (World.setCell W2 _ _) _ = W3
  obtain ⟨hes3, htk⟩ := HF3.out _ _ hW3
  clear hW3 HF3 c0 c1 c2 c3 c4 c5 f0 f1 f2 f3 f4 f5 k0 k1 k2 k3
  have hrd3 := RD.later HR.out hes3.below
  obtain ⟨⟨c0, c1, c2, c3, c4, c5⟩, ⟨f0, f1, f2, f3, f4, f5⟩, hpX⟩ := block6 hes3.hp
  rw [show ((i + 1 : Nat) : Int) = (i : Int) + 1 by omega] at c2
  rw [show ((n + 1 : Nat) : Int) = (n : Int) + 1 by omega] at c3
  obtain ⟨⟨x0, x1, x2, x3, x4⟩, ⟨y0, y1, y2, y3, y4⟩, hx3⟩ := block5 hes3.hx
  obtain ⟨⟨d0, d1, d2, d3, d4, d5⟩, ⟨g0, g1, g2, g3, g4, g5⟩, hq3⟩ := block6 hes3.hq
  have t0 : W3.cell? ⟨W2.heap.size, 0, none⟩ = some (.int .i64 t.kind) := by rw [Lib.cell_of_heap htk, hk]; rfl
  have t1 : W3.cell? ⟨W2.heap.size, 1, none⟩ = some (strV t.text) := by rw [Lib.cell_of_heap htk]; rfl
  have t2 : W3.cell? ⟨W2.heap.size, 2, none⟩ = some (.int .i64 t.n) := by rw [Lib.cell_of_heap htk]; rfl
  have hdn : ts.drop (i + 1) = l := by rw [← List.tail_drop, ht]; rfl
  have HES3 := Lib.hid hes3; clear hes3
  have HTK := Lib.hid htk; clear htk
  go_wp2_with fail
  go_region
  go_wp2_with fail
  have HF : Hid (∀ F, (put6w (put5w W3 (w.heap.size + 1) (.int .i64 1) (.string ⟨#[]⟩) (.int .i64 t.n) (.slice none 0 0) (.slice none 0 0)) (w.heap.size + 1 + 1) (.slice (some ⟨g, 0, none⟩) ts.length cap) (.int .i64 e) (.int .i64 ((i : Int) + 1)) (.int .i64 ((n : Int) + 1)) (.int .i64 0) (.int .i64 0)).drew = F →
      F.heap[w.heap.size + 1]? = some (.cells #[.int .i64 1, .string ⟨#[]⟩, .int .i64 t.n, .slice none 0 0, .slice none 0 0] 26 (0, 0)) ∧ F.heap[w.heap.size + 1 + 1]? = some (.cells (rdA (.slice (some ⟨g, 0, none⟩) ts.length cap) e ((i : Int) + 1) ((n : Int) + 1) 0 0) 55 (0, 0)) ∧ Below w.heap.size w F ∧ ∀ b, b ≠ w.heap.size + 1 → b ≠ w.heap.size + 1 + 1 → F.heap[b]? = W3.heap[b]?) := Lib.hid (by
    rintro F rfl
    obtain ⟨⟨q1, q2⟩, q3, q4⟩ := HES3.out.fin (.int .i64 1) (.string ⟨#[]⟩) (.int .i64 t.n) (.slice none 0 0) (.slice none 0 0) (.slice (some ⟨g, 0, none⟩) ts.length cap) (.int .i64 e) (.int .i64 ((i : Int) + 1)) (.int .i64 ((n : Int) + 1)) (.int .i64 0) (.int .i64 0)
    exact drew_all q1 q2 q3 q4)
  generalize hF : World.drew _ = F
  obtain ⟨hfx, hfq, hfb, hfo⟩ := HF.out _ hF
  clear hF HF c0 c1 c2 c3 c4 c5 f0 f1 f2 f3 f4 f5 x0 x1 x2 x3 x4 y0 y1 y2 y3 y4 d0 d1 d2 d3 d4 d5 g0 g1 g2 g3 g4 g5
  obtain ⟨⟨x0, x1, x2, x3, x4⟩, -, -⟩ := block5 hfx
  obtain ⟨⟨d0, d1, d2, d3, d4, d5⟩, -, -⟩ := block6 hfq
  refine bodyPost_ret (v := .tuple #[.agg #[.int .i64 1, .string ⟨#[]⟩, .int .i64 t.n, .slice none 0 0, .slice none 0 0], .agg (rdA (.slice (some ⟨g, 0, none⟩) ts.length cap) e ((i : Int) + 1) ((n : Int) + 1) 0 0)]) (by simp [results, Tryd.results30, go_sem, x0, x1, x2, x3, x4, d0, d1, d2, d3, d4, d5]) rfl ?_
  have e1 : (i : Int) + 1 = ((i + 1 : Nat) : Int) := by omega
  have e2 : (n : Int) + 1 = ((n + 1 : Nat) : Int) := by omega
  rw [e1, e2]
  exact ⟨⟨_, _, i + 1, rfl, hdn, by omega, rfl, _, _, rfl, RInts_nil, RArgs_nil⟩, hfb⟩

set_option maxRecDepth 100000 in
set_option maxHeartbeats 16000000 in
theorem f30_name {ts l : List Tok} {t : Tok} {v : Value} {e B d n i : Nat} {w : World} (hd : d ≤ 32) (hn : n ≤ 1024) (hn2 : n ≠ 1024) (h : RD w v ts B) (ht : ts.drop i = t :: l) (hk : t.kind = 1) (hp40 : isT 40 l = false) :
    Calls Tryd.prog 30 #[.agg (rdA v e i n 0 0), .int .i64 d] w (RExprPost (.ok [.mk 4 t.text 0 [] []] (n + 1) l) ts v e w) := by
  have hnot : ∀ (x : Bool) (w : World), (Op.unary .not (.bool x)).run Tryd.prog w = .ok (.bool (!x)) w := fun _ _ => rfl
  have hs := h.small
  obtain ⟨a, cap, rfl, hc1, hc2⟩ := h.form
  have HR := Lib.hid h; clear h
  have HE := Lib.hid (ES.start (w := w) (v := .slice a ts.length cap) (e := e) (i := i) (n := n))
  have hlt := (drop_cons_at ht).1
  have h57 := f57_any (i := i) e n 0 0 (RD.later HR.out HE.out.below)
  rw [ht] at h57
  simp only [kindT, hk] at h57
  go_enter Tryd.func30, Tryd.ntmps30
  go_wp2_with fail
  refine h57.mono ?_
  rintro en w1 ⟨rfl, hb1⟩
  have hes1 := HE.out.later hb1
  have hrd1 := RD.later HR.out hes1.below
  clear hb1 h57
  obtain ⟨⟨c0, c1, c2, c3, c4, c5⟩, ⟨f0, f1, f2, f3, f4, f5⟩, hpX⟩ := block6 hes1.hp
  have HES1 := Lib.hid hes1; clear hes1
  have hn3 : ((n : Int) == 1024) = false := by simpa using (show ¬ (n : Int) = 1024 by omega)
  go_upto_region 7 with fail
  have hes2 := HES1.out.setN (n + 1)
  rw [show ((n + 1 : Nat) : Int) = (n : Int) + 1 by omega] at hes2
  have HF2 : Hid (∀ W2, w1.setCell ⟨w.heap.size, 3, none⟩ (.int .i64 ((n : Int) + 1)) = W2 → ES w W2 (.slice a ts.length cap) e i (n + 1)) := Lib.hid (by rintro W2 rfl; exact hes2)
  clear hes2
  generalize hW2 : World.setCell w1 _ _ = W2
  have hes2 := HF2.out _ hW2
  clear hW2 HF2 c0 c1 c2 c3 c4 c5 f0 f1 f2 f3 f4 f5
  obtain ⟨⟨c0, c1, c2, c3, c4, c5⟩, ⟨f0, f1, f2, f3, f4, f5⟩, hpX⟩ := block6 hes2.hp
  have hrd2 := RD.later HR.out hes2.below
  obtain ⟨g, rfl, hg, _, k0, k1, k2, k3⟩ := hrd2.here ht
  have HES2 := Lib.hid hes2; clear hes2
  go_upto_region 9 with fail
  have HF3 : Hid (∀ O W3, (W2.setCell ⟨w.heap.size, 2, none⟩ (.int .i64 ((i : Int) + 1))).alloc O = W3 → ES w W3 (.slice (some ⟨g, 0, none⟩) ts.length cap) e (i + 1) (n + 1) ∧ W3.heap[W2.heap.size]? = some O) := Lib.hid (by
    rintro O W3 rfl
    have h1 := HES2.out.setI (i + 1)
    rw [show ((i + 1 : Nat) : Int) = (i : Int) + 1 by omega] at h1
    refine ⟨h1.later ((Below.refl _ _).alloc (Nat.le_refl _) _), ?_⟩
    have := heap_alloc_new (W2.setCell ⟨w.heap.size, 2, none⟩ (.int .i64 ((i : Int) + 1))) O; simpa using this)
  generalize hW3 : World.alloc (World.setCell W2 _ _) _ = W3
  obtain ⟨hes3, htk⟩ := HF3.out _ _ hW3
  clear hW3 HF3 c0 c1 c2 c3 c4 c5 f0 f1 f2 f3 f4 f5 k0 k1 k2 k3
  have hrd3 := RD.later HR.out hes3.below
  obtain ⟨⟨c0, c1, c2, c3, c4, c5⟩, ⟨f0, f1, f2, f3, f4, f5⟩, hpX⟩ := block6 hes3.hp
  rw [show ((i + 1 : Nat) : Int) = (i : Int) + 1 by omega] at c2
  rw [show ((n + 1 : Nat) : Int) = (n : Int) + 1 by omega] at c3
  obtain ⟨⟨x0, x1, x2, x3, x4⟩, ⟨y0, y1, y2, y3, y4⟩, hx3⟩ := block5 hes3.hx
  obtain ⟨⟨d0, d1, d2, d3, d4, d5⟩, ⟨g0, g1, g2, g3, g4, g5⟩, hq3⟩ := block6 hes3.hq
  have t0 : W3.cell? ⟨W2.heap.size, 0, none⟩ = some (.int .i64 t.kind) := by rw [Lib.cell_of_heap htk, hk]; rfl
  have t1 : W3.cell? ⟨W2.heap.size, 1, none⟩ = some (strV t.text) := by rw [Lib.cell_of_heap htk]; rfl
  have t2 : W3.cell? ⟨W2.heap.size, 2, none⟩ = some (.int .i64 t.n) := by rw [Lib.cell_of_heap htk]; rfl
  have hdn : ts.drop (i + 1) = l := by rw [← List.tail_drop, ht]; rfl
  have HES3 := Lib.hid hes3; clear hes3
  have HTK := Lib.hid htk; clear htk
  have h58b := f58_any (i := i + 1) 40 e ((n : Int) + 1) 0 0 hrd3
  rw [hdn, hp40, show ((i + 1 : Nat) : Int) = (i : Int) + 1 by omega] at h58b
  clear x0 x1 x2 x3 x4 y0 y1 y2 y3 y4 d0 d1 d2 d3 d4 d5 g0 g1 g2 g3 g4 g5 t0 t1 t2
  go_wp2_with fail
  refine h58b.mono ?_
  rintro en W4 ⟨rfl, hb4⟩
  have hes4 := HES3.out.later hb4
  have htk := (hb4.block _ (Array.getElem?_eq_some_iff.1 HTK.out).1).trans HTK.out
  clear hb4
  clear c0 c1 c2 c3 c4 c5 f0 f1 f2 f3 f4 f5
  obtain ⟨⟨c0, c1, c2, c3, c4, c5⟩, ⟨f0, f1, f2, f3, f4, f5⟩, hpX⟩ := block6 hes4.hp
  rw [show ((i + 1 : Nat) : Int) = (i : Int) + 1 by omega] at c2
  rw [show ((n + 1 : Nat) : Int) = (n : Int) + 1 by omega] at c3
  obtain ⟨⟨x0, x1, x2, x3, x4⟩, ⟨y0, y1, y2, y3, y4⟩, hx4⟩ := block5 hes4.hx
  obtain ⟨⟨d0, d1, d2, d3, d4, d5⟩, ⟨g0, g1, g2, g3, g4, g5⟩, hq4⟩ := block6 hes4.hq
  have t1 : W4.cell? ⟨W2.heap.size, 1, none⟩ = some (strV t.text) := by rw [Lib.cell_of_heap htk]; rfl
  have hrd4 := RD.later HR.out hes4.below
  have HES4 := Lib.hid hes4; clear hes4
  have HTK4 := Lib.hid htk; clear htk
  go_wp2_with fail
  go_region
  go_wp2_with fail
  have HF : Hid (∀ F, (put6w (put5w W4 (w.heap.size + 1) (.int .i64 4) (strV t.text) (.int .i64 0) (.slice none 0 0) (.slice none 0 0)) (w.heap.size + 1 + 1) (.slice (some ⟨g, 0, none⟩) ts.length cap) (.int .i64 e) (.int .i64 ((i : Int) + 1)) (.int .i64 ((n : Int) + 1)) (.int .i64 0) (.int .i64 0)).drew = F →
      F.heap[w.heap.size + 1]? = some (.cells #[.int .i64 4, strV t.text, .int .i64 0, .slice none 0 0, .slice none 0 0] 26 (0, 0)) ∧ F.heap[w.heap.size + 1 + 1]? = some (.cells (rdA (.slice (some ⟨g, 0, none⟩) ts.length cap) e ((i : Int) + 1) ((n : Int) + 1) 0 0) 55 (0, 0)) ∧ Below w.heap.size w F ∧ ∀ b, b ≠ w.heap.size + 1 → b ≠ w.heap.size + 1 + 1 → F.heap[b]? = W4.heap[b]?) := Lib.hid (by
    rintro F rfl
    obtain ⟨⟨q1, q2⟩, q3, q4⟩ := HES4.out.fin (.int .i64 4) (strV t.text) (.int .i64 0) (.slice none 0 0) (.slice none 0 0) (.slice (some ⟨g, 0, none⟩) ts.length cap) (.int .i64 e) (.int .i64 ((i : Int) + 1)) (.int .i64 ((n : Int) + 1)) (.int .i64 0) (.int .i64 0)
    exact drew_all q1 q2 q3 q4)
  generalize hF : World.drew _ = F
  obtain ⟨hfx, hfq, hfb, hfo⟩ := HF.out _ hF
  clear hF HF c0 c1 c2 c3 c4 c5 f0 f1 f2 f3 f4 f5 x0 x1 x2 x3 x4 y0 y1 y2 y3 y4 d0 d1 d2 d3 d4 d5 g0 g1 g2 g3 g4 g5
  obtain ⟨⟨x0, x1, x2, x3, x4⟩, -, -⟩ := block5 hfx
  obtain ⟨⟨d0, d1, d2, d3, d4, d5⟩, -, -⟩ := block6 hfq
  refine bodyPost_ret (v := .tuple #[.agg #[.int .i64 4, strV t.text, .int .i64 0, .slice none 0 0, .slice none 0 0], .agg (rdA (.slice (some ⟨g, 0, none⟩) ts.length cap) e ((i : Int) + 1) ((n : Int) + 1) 0 0)]) (by simp [results, Tryd.results30, go_sem, x0, x1, x2, x3, x4, d0, d1, d2, d3, d4, d5]) rfl ?_
  have e1 : (i : Int) + 1 = ((i + 1 : Nat) : Int) := by omega
  have e2 : (n : Int) + 1 = ((n + 1 : Nat) : Int) := by omega
  rw [e1, e2]
  exact ⟨⟨_, _, i + 1, rfl, hdn, by omega, rfl, _, _, rfl, RInts_nil, RArgs_nil⟩, hfb⟩

set_option maxRecDepth 100000 in
set_option maxHeartbeats 16000000 in
theorem f30_list {ts l : List Tok} {t : Tok} {v : Value} {e B d n i : Nat} {w : World} (hd : d ≤ 32) (hn : n ≤ 1024) (hn2 : n ≠ 1024) (h : RD w v ts B) (ht : ts.drop i = t :: l) (he : e ≤ 65536) (hk : t.kind = 3) (h91 : isS t 91 = true) {zs : List Int} {l2 : List Tok} (hl : pList l = .ok zs l2) :
    Calls Tryd.prog 30 #[.agg (rdA v e i n 0 0), .int .i64 d] w (RExprPost (.ok [.mk 2 [] 0 zs []] (n + 1) l2) ts v e w) := by
  have hnot : ∀ (x : Bool) (w : World), (Op.unary .not (.bool x)).run Tryd.prog w = .ok (.bool (!x)) w := fun _ _ => rfl
  have hs := h.small
  obtain ⟨a, cap, rfl, hc1, hc2⟩ := h.form
  have HR := Lib.hid h; clear h
  have HE := Lib.hid (ES.start (w := w) (v := .slice a ts.length cap) (e := e) (i := i) (n := n))
  have hlt := (drop_cons_at ht).1
  have h57 := f57_any (i := i) e n 0 0 (RD.later HR.out HE.out.below)
  rw [ht] at h57
  simp only [kindT, hk] at h57
  go_enter Tryd.func30, Tryd.ntmps30
  go_wp2_with fail
  refine h57.mono ?_
  rintro en w1 ⟨rfl, hb1⟩
  have hes1 := HE.out.later hb1
  have hrd1 := RD.later HR.out hes1.below
  clear hb1 h57
  obtain ⟨⟨c0, c1, c2, c3, c4, c5⟩, ⟨f0, f1, f2, f3, f4, f5⟩, hpX⟩ := block6 hes1.hp
  have HES1 := Lib.hid hes1; clear hes1
  have h58 := f58_any (i := i) 91 e n 0 0 hrd1
  rw [ht, show isT 91 (t :: l) = true from h91] at h58
  go_wp2_with fail
  refine h58.mono ?_
  rintro en w1 ⟨rfl, hb1⟩
  have hes1 := HES1.out.later hb1
  have hrd1 := RD.later HR.out hes1.below
  clear hb1 h58
  clear c0 c1 c2 c3 c4 c5 f0 f1 f2 f3 f4 f5
  obtain ⟨⟨c0, c1, c2, c3, c4, c5⟩, ⟨f0, f1, f2, f3, f4, f5⟩, hpX⟩ := block6 hes1.hp
  have HES1 := Lib.hid hes1; clear hes1
  have hn3 : ((n : Int) == 1024) = false := by simpa using (show ¬ (n : Int) = 1024 by omega)
  go_upto_region 7 with fail
  have hes2 := HES1.out.setN (n + 1)
  rw [show ((n + 1 : Nat) : Int) = (n : Int) + 1 by omega] at hes2
  have HF2 : Hid (∀ W2, w1.setCell ⟨w.heap.size, 3, none⟩ (.int .i64 ((n : Int) + 1)) = W2 → ES w W2 (.slice a ts.length cap) e i (n + 1)) := Lib.hid (by rintro W2 rfl; exact hes2)
  clear hes2
  generalize hW2 : World.setCell w1 _ _ = W2
  have hes2 := HF2.out _ hW2
  clear hW2 HF2 c0 c1 c2 c3 c4 c5 f0 f1 f2 f3 f4 f5
  obtain ⟨⟨c0, c1, c2, c3, c4, c5⟩, ⟨f0, f1, f2, f3, f4, f5⟩, hpX⟩ := block6 hes2.hp
  have hrd2 := RD.later HR.out hes2.below
  obtain ⟨g, rfl, hg, _, k0, k1, k2, k3⟩ := hrd2.here ht
  have HES2 := Lib.hid hes2; clear hes2
  go_upto_region 9 with fail
  have HF3 : Hid (∀ O W3, (W2.setCell ⟨w.heap.size, 2, none⟩ (.int .i64 ((i : Int) + 1))).alloc O = W3 → ES w W3 (.slice (some ⟨g, 0, none⟩) ts.length cap) e (i + 1) (n + 1) ∧ W3.heap[W2.heap.size]? = some O) := Lib.hid (by
    rintro O W3 rfl
    have h1 := HES2.out.setI (i + 1)
    rw [show ((i + 1 : Nat) : Int) = (i : Int) + 1 by omega] at h1
    refine ⟨h1.later ((Below.refl _ _).alloc (Nat.le_refl _) _), ?_⟩
    have := heap_alloc_new (W2.setCell ⟨w.heap.size, 2, none⟩ (.int .i64 ((i : Int) + 1))) O; simpa using this)
  generalize hW3 : World.alloc (World.setCell W2 _ _) _ = W3
  obtain ⟨hes3, htk⟩ := HF3.out _ _ hW3
  clear hW3 HF3 c0 c1 c2 c3 c4 c5 f0 f1 f2 f3 f4 f5 k0 k1 k2 k3
  have hrd3 := RD.later HR.out hes3.below
  obtain ⟨⟨c0, c1, c2, c3, c4, c5⟩, ⟨f0, f1, f2, f3, f4, f5⟩, hpX⟩ := block6 hes3.hp
  rw [show ((i + 1 : Nat) : Int) = (i : Int) + 1 by omega] at c2
  rw [show ((n + 1 : Nat) : Int) = (n : Int) + 1 by omega] at c3
  obtain ⟨⟨x0, x1, x2, x3, x4⟩, ⟨y0, y1, y2, y3, y4⟩, hx3⟩ := block5 hes3.hx
  obtain ⟨⟨d0, d1, d2, d3, d4, d5⟩, ⟨g0, g1, g2, g3, g4, g5⟩, hq3⟩ := block6 hes3.hq
  have t0 : W3.cell? ⟨W2.heap.size, 0, none⟩ = some (.int .i64 t.kind) := by rw [Lib.cell_of_heap htk, hk]; rfl
  have t1 : W3.cell? ⟨W2.heap.size, 1, none⟩ = some (strV t.text) := by rw [Lib.cell_of_heap htk]; rfl
  have t2 : W3.cell? ⟨W2.heap.size, 2, none⟩ = some (.int .i64 t.n) := by rw [Lib.cell_of_heap htk]; rfl
  have hdn : ts.drop (i + 1) = l := by rw [← List.tail_drop, ht]; rfl
  have HES3 := Lib.hid hes3; clear hes3
  have HTK := Lib.hid htk; clear htk
  have h59 := f59_any ((n : Int) + 1) hrd3 (show i + 1 ≤ ts.length by omega) he
  rw [hdn, hl, show ((i + 1 : Nat) : Int) = (i : Int) + 1 by omega] at h59
  clear x0 x1 x2 x3 x4 y0 y1 y2 y3 y4 d0 d1 d2 d3 d4 d5 g0 g1 g2 g3 g4 g5 t0 t1 t2
  go_wp2_with fail
  refine h59.mono ?_
  rintro en W4 ⟨⟨j2, lv, hj2, hj3, rfl, hri⟩, hb4⟩
  obtain ⟨la, lc, rfl⟩ := RInts_form hri
  have HESC := Lib.hid (HES3.out.later hb4)
  have hsz3 := HES3.out.lt
  have hsz4 := hb4.size
  have HRI := Lib.hid hri; clear hri
  clear hb4 h59
  go_upto_region 13 with fail
  have HF5 : Hid (∀ O W5, W4.alloc O = W5 → ES w W5 (.slice (some ⟨g, 0, none⟩) ts.length cap) e (i + 1) (n + 1) ∧ W5.heap[W4.heap.size]? = some O ∧ (∀ b, b < W4.heap.size → W5.heap[b]? = W4.heap[b]?)) := Lib.hid (by
    rintro O W5 rfl
    have hb := (Below.refl W4.heap.size W4).alloc (Nat.le_refl _) O
    exact ⟨HESC.out.later hb, heap_alloc_new _ _, fun b hb2 => hb.block b hb2⟩)
  generalize hW5 : World.alloc W4 _ = W5
  obtain ⟨hes5, hq9, hold⟩ := HF5.out _ _ hW5
  clear hW5 HF5
  clear c0 c1 c2 c3 c4 c5 f0 f1 f2 f3 f4 f5
  obtain ⟨⟨x0, x1, x2, x3, x4⟩, ⟨y0, y1, y2, y3, y4⟩, hx5⟩ := block5 hes5.hx
  obtain ⟨⟨d0, d1, d2, d3, d4, d5⟩, ⟨g0, g1, g2, g3, g4, g5⟩, hq5⟩ := block6 hes5.hq
  obtain ⟨⟨c0, c1, c2, c3, c4, c5⟩, ⟨f0, f1, f2, f3, f4, f5⟩, hpX⟩ := block6 hq9
  have HES5 := Lib.hid hes5; clear hes5
  go_wp2_with fail
  go_region
  go_wp2_with fail
  have HF : Hid (∀ F, (put6w (put5w W5 (w.heap.size + 1) (.int .i64 2) (.string ⟨#[]⟩) (.int .i64 0) (.slice la zs.length lc) (.slice none 0 0)) (w.heap.size + 1 + 1) (.slice (some ⟨g, 0, none⟩) ts.length cap) (.int .i64 e) (.int .i64 (j2 : Nat)) (.int .i64 ((n : Int) + 1)) (.int .i64 0) (.int .i64 0)).drew = F →
      F.heap[w.heap.size + 1]? = some (.cells #[.int .i64 2, .string ⟨#[]⟩, .int .i64 0, .slice la zs.length lc, .slice none 0 0] 26 (0, 0)) ∧ F.heap[w.heap.size + 1 + 1]? = some (.cells (rdA (.slice (some ⟨g, 0, none⟩) ts.length cap) e (j2 : Nat) ((n : Int) + 1) 0 0) 55 (0, 0)) ∧ Below w.heap.size w F ∧ ∀ b, b ≠ w.heap.size + 1 → b ≠ w.heap.size + 1 + 1 → F.heap[b]? = W5.heap[b]?) := Lib.hid (by
    rintro F rfl
    obtain ⟨⟨q1, q2⟩, q3, q4⟩ := HES5.out.fin (.int .i64 2) (.string ⟨#[]⟩) (.int .i64 0) (.slice la zs.length lc) (.slice none 0 0) (.slice (some ⟨g, 0, none⟩) ts.length cap) (.int .i64 e) (.int .i64 (j2 : Nat)) (.int .i64 ((n : Int) + 1)) (.int .i64 0) (.int .i64 0)
    exact drew_all q1 q2 q3 q4)
  generalize hF : World.drew _ = F
  obtain ⟨hfx, hfq, hfb, hfo⟩ := HF.out _ hF
  clear hF HF c0 c1 c2 c3 c4 c5 f0 f1 f2 f3 f4 f5 x0 x1 x2 x3 x4 y0 y1 y2 y3 y4 d0 d1 d2 d3 d4 d5 g0 g1 g2 g3 g4 g5
  obtain ⟨⟨x0, x1, x2, x3, x4⟩, -, -⟩ := block5 hfx
  obtain ⟨⟨d0, d1, d2, d3, d4, d5⟩, -, -⟩ := block6 hfq
  refine bodyPost_ret (v := .tuple #[.agg #[.int .i64 2, .string ⟨#[]⟩, .int .i64 0, .slice la zs.length lc, .slice none 0 0], .agg (rdA (.slice (some ⟨g, 0, none⟩) ts.length cap) e (j2 : Nat) ((n : Int) + 1) 0 0)]) (by simp [results, Tryd.results30, go_sem, x0, x1, x2, x3, x4, d0, d1, d2, d3, d4, d5]) rfl ?_
  have e2 : (n : Int) + 1 = ((n + 1 : Nat) : Int) := by omega
  rw [e2]
  have hri := RInts_keep (G := fun b => w.heap.size ≤ b) (w' := F) HRI.out (fun b h1 h2 => (hfo b (by omega) (by omega)).trans (hold b h2)) (fun b h => by omega)
  exact ⟨⟨_, _, j2, rfl, hj2, hj3, rfl, _, _, rfl, hri, RArgs_nil⟩, hfb⟩

set_option maxRecDepth 100000 in
set_option maxHeartbeats 16000000 in
theorem f30_listErr {ts l : List Tok} {t : Tok} {v : Value} {e B d n i : Nat} {w : World} (hd : d ≤ 32) (hn : n ≤ 1024) (hn2 : n ≠ 1024) (h : RD w v ts B) (ht : ts.drop i = t :: l) (he : e ≤ 65536) (hk : t.kind = 3) (h91 : isS t 91 = true) {c : Int} {l2 : List Tok} (hl : pList l = .err c l2) :
    Calls Tryd.prog 30 #[.agg (rdA v e i n 0 0), .int .i64 d] w (RExprPost (.err c l2) ts v e w) := by
  have hnot : ∀ (x : Bool) (w : World), (Op.unary .not (.bool x)).run Tryd.prog w = .ok (.bool (!x)) w := fun _ _ => rfl
  have hs := h.small
  obtain ⟨a, cap, rfl, hc1, hc2⟩ := h.form
  have HR := Lib.hid h; clear h
  have HE := Lib.hid (ES.start (w := w) (v := .slice a ts.length cap) (e := e) (i := i) (n := n))
  have hlt := (drop_cons_at ht).1
  have h57 := f57_any (i := i) e n 0 0 (RD.later HR.out HE.out.below)
  rw [ht] at h57
  simp only [kindT, hk] at h57
  go_enter Tryd.func30, Tryd.ntmps30
  go_wp2_with fail
  refine h57.mono ?_
  rintro en w1 ⟨rfl, hb1⟩
  have hes1 := HE.out.later hb1
  have hrd1 := RD.later HR.out hes1.below
  clear hb1 h57
  obtain ⟨⟨c0, c1, c2, c3, c4, c5⟩, ⟨f0, f1, f2, f3, f4, f5⟩, hpX⟩ := block6 hes1.hp
  have HES1 := Lib.hid hes1; clear hes1
  have h58 := f58_any (i := i) 91 e n 0 0 hrd1
  rw [ht, show isT 91 (t :: l) = true from h91] at h58
  go_wp2_with fail
  refine h58.mono ?_
  rintro en w1 ⟨rfl, hb1⟩
  have hes1 := HES1.out.later hb1
  have hrd1 := RD.later HR.out hes1.below
  clear hb1 h58
  clear c0 c1 c2 c3 c4 c5 f0 f1 f2 f3 f4 f5
  obtain ⟨⟨c0, c1, c2, c3, c4, c5⟩, ⟨f0, f1, f2, f3, f4, f5⟩, hpX⟩ := block6 hes1.hp
  have HES1 := Lib.hid hes1; clear hes1
  have hn3 : ((n : Int) == 1024) = false := by simpa using (show ¬ (n : Int) = 1024 by omega)
  go_upto_region 7 with fail
  have hes2 := HES1.out.setN (n + 1)
  rw [show ((n + 1 : Nat) : Int) = (n : Int) + 1 by omega] at hes2
  have HF2 : Hid (∀ W2, w1.setCell ⟨w.heap.size, 3, none⟩ (.int .i64 ((n : Int) + 1)) = W2 → ES w W2 (.slice a ts.length cap) e i (n + 1)) := Lib.hid (by rintro W2 rfl; exact hes2)
  clear hes2
  generalize hW2 : World.setCell w1 _ _ = W2
  have hes2 := HF2.out _ hW2
  clear hW2 HF2 c0 c1 c2 c3 c4 c5 f0 f1 f2 f3 f4 f5
  obtain ⟨⟨c0, c1, c2, c3, c4, c5⟩, ⟨f0, f1, f2, f3, f4, f5⟩, hpX⟩ := block6 hes2.hp
  have hrd2 := RD.later HR.out hes2.below
  obtain ⟨g, rfl, hg, _, k0, k1, k2, k3⟩ := hrd2.here ht
  have HES2 := Lib.hid hes2; clear hes2
  go_upto_region 9 with fail
  have HF3 : Hid (∀ O W3, (W2.setCell ⟨w.heap.size, 2, none⟩ (.int .i64 ((i : Int) + 1))).alloc O = W3 → ES w W3 (.slice (some ⟨g, 0, none⟩) ts.length cap) e (i + 1) (n + 1) ∧ W3.heap[W2.heap.size]? = some O) := Lib.hid (by
    rintro O W3 rfl
    have h1 := HES2.out.setI (i + 1)
    rw [show ((i + 1 : Nat) : Int) = (i : Int) + 1 by omega] at h1
    refine ⟨h1.later ((Below.refl _ _).alloc (Nat.le_refl _) _), ?_⟩
    have := heap_alloc_new (W2.setCell ⟨w.heap.size, 2, none⟩ (.int .i64 ((i : Int) + 1))) O; simpa using this)
  generalize hW3 : World.alloc (World.setCell W2 _ _) _ = W3
  obtain ⟨hes3, htk⟩ := HF3.out _ _ hW3
  clear hW3 HF3 c0 c1 c2 c3 c4 c5 f0 f1 f2 f3 f4 f5 k0 k1 k2 k3
  have hrd3 := RD.later HR.out hes3.below
  obtain ⟨⟨c0, c1, c2, c3, c4, c5⟩, ⟨f0, f1, f2, f3, f4, f5⟩, hpX⟩ := block6 hes3.hp
  rw [show ((i + 1 : Nat) : Int) = (i : Int) + 1 by omega] at c2
  rw [show ((n + 1 : Nat) : Int) = (n : Int) + 1 by omega] at c3
  obtain ⟨⟨x0, x1, x2, x3, x4⟩, ⟨y0, y1, y2, y3, y4⟩, hx3⟩ := block5 hes3.hx
  obtain ⟨⟨d0, d1, d2, d3, d4, d5⟩, ⟨g0, g1, g2, g3, g4, g5⟩, hq3⟩ := block6 hes3.hq
  have t0 : W3.cell? ⟨W2.heap.size, 0, none⟩ = some (.int .i64 t.kind) := by rw [Lib.cell_of_heap htk, hk]; rfl
  have t1 : W3.cell? ⟨W2.heap.size, 1, none⟩ = some (strV t.text) := by rw [Lib.cell_of_heap htk]; rfl
  have t2 : W3.cell? ⟨W2.heap.size, 2, none⟩ = some (.int .i64 t.n) := by rw [Lib.cell_of_heap htk]; rfl
  have hdn : ts.drop (i + 1) = l := by rw [← List.tail_drop, ht]; rfl
  have HES3 := Lib.hid hes3; clear hes3
  have HTK := Lib.hid htk; clear htk
  have h59 := f59_any ((n : Int) + 1) hrd3 (show i + 1 ≤ ts.length by omega) he
  rw [hdn, hl, show ((i + 1 : Nat) : Int) = (i : Int) + 1 by omega] at h59
  clear x0 x1 x2 x3 x4 y0 y1 y2 y3 y4 d0 d1 d2 d3 d4 d5 g0 g1 g2 g3 g4 g5 t0 t1 t2
  go_wp2_with fail
  refine h59.mono ?_
  rintro en W4 ⟨⟨j2, rfl⟩, hb4⟩
  have HESC := Lib.hid (HES3.out.later hb4)
  have hsz3 := HES3.out.lt
  have hsz4 := hb4.size
  clear hb4 h59
  go_upto_region 13 with fail
  have HF5 : Hid (∀ O W5, W4.alloc O = W5 → ES w W5 (.slice (some ⟨g, 0, none⟩) ts.length cap) e (i + 1) (n + 1) ∧ W5.heap[W4.heap.size]? = some O ∧ (∀ b, b < W4.heap.size → W5.heap[b]? = W4.heap[b]?)) := Lib.hid (by
    rintro O W5 rfl
    have hb := (Below.refl W4.heap.size W4).alloc (Nat.le_refl _) O
    exact ⟨HESC.out.later hb, heap_alloc_new _ _, fun b hb2 => hb.block b hb2⟩)
  generalize hW5 : World.alloc W4 _ = W5
  obtain ⟨hes5, hq9, hold⟩ := HF5.out _ _ hW5
  clear hW5 HF5
  clear c0 c1 c2 c3 c4 c5 f0 f1 f2 f3 f4 f5
  obtain ⟨⟨x0, x1, x2, x3, x4⟩, ⟨y0, y1, y2, y3, y4⟩, hx5⟩ := block5 hes5.hx
  obtain ⟨⟨d0, d1, d2, d3, d4, d5⟩, ⟨g0, g1, g2, g3, g4, g5⟩, hq5⟩ := block6 hes5.hq
  obtain ⟨⟨c0, c1, c2, c3, c4, c5⟩, ⟨f0, f1, f2, f3, f4, f5⟩, hpX⟩ := block6 hq9
  have HES5 := Lib.hid hes5; clear hes5
  go_wp2_with fail
  go_region
  go_wp2_with fail
  have HF : Hid (∀ F, (put6w (put5w W5 (w.heap.size + 1) (.int .i64 2) (.string ⟨#[]⟩) (.int .i64 0) (.slice none 0 0) (.slice none 0 0)) (w.heap.size + 1 + 1) (.slice (some ⟨g, 0, none⟩) ts.length cap) (.int .i64 e) (.int .i64 (j2 : Nat)) (.int .i64 ((n : Int) + 1)) (.int .i64 c) (.int .i64 (posT e l2 : Nat))).drew = F →
      F.heap[w.heap.size + 1]? = some (.cells #[.int .i64 2, .string ⟨#[]⟩, .int .i64 0, .slice none 0 0, .slice none 0 0] 26 (0, 0)) ∧ F.heap[w.heap.size + 1 + 1]? = some (.cells (rdA (.slice (some ⟨g, 0, none⟩) ts.length cap) e (j2 : Nat) ((n : Int) + 1) c (posT e l2 : Nat)) 55 (0, 0)) ∧ Below w.heap.size w F ∧ ∀ b, b ≠ w.heap.size + 1 → b ≠ w.heap.size + 1 + 1 → F.heap[b]? = W5.heap[b]?) := Lib.hid (by
    rintro F rfl
    obtain ⟨⟨q1, q2⟩, q3, q4⟩ := HES5.out.fin (.int .i64 2) (.string ⟨#[]⟩) (.int .i64 0) (.slice none 0 0) (.slice none 0 0) (.slice (some ⟨g, 0, none⟩) ts.length cap) (.int .i64 e) (.int .i64 (j2 : Nat)) (.int .i64 ((n : Int) + 1)) (.int .i64 c) (.int .i64 (posT e l2 : Nat))
    exact drew_all q1 q2 q3 q4)
  generalize hF : World.drew _ = F
  obtain ⟨hfx, hfq, hfb, hfo⟩ := HF.out _ hF
  clear hF HF c0 c1 c2 c3 c4 c5 f0 f1 f2 f3 f4 f5 x0 x1 x2 x3 x4 y0 y1 y2 y3 y4 d0 d1 d2 d3 d4 d5 g0 g1 g2 g3 g4 g5
  obtain ⟨⟨x0, x1, x2, x3, x4⟩, -, -⟩ := block5 hfx
  obtain ⟨⟨d0, d1, d2, d3, d4, d5⟩, -, -⟩ := block6 hfq
  refine bodyPost_ret (v := .tuple #[.agg #[.int .i64 2, .string ⟨#[]⟩, .int .i64 0, .slice none 0 0, .slice none 0 0], .agg (rdA (.slice (some ⟨g, 0, none⟩) ts.length cap) e (j2 : Nat) ((n : Int) + 1) c (posT e l2 : Nat))]) (by simp [results, Tryd.results30, go_sem, x0, x1, x2, x3, x4, d0, d1, d2, d3, d4, d5]) rfl ?_
  exact ⟨⟨2, 0, (n : Int) + 1, [], j2, rfl⟩, hfb⟩

set_option maxRecDepth 100000 in
set_option maxHeartbeats 16000000 in
theorem f30_call {ts l : List Tok} {t : Tok} {v : Value} {e B d n i k : Nat} {w : World} (IH : Says30 ts v e B k) (hd : d ≤ 32) (hn : n ≤ 1024) (hn2 : n ≠ 1024) (h : RD w v ts B) (ht : ts.drop i = t :: l) (he : e ≤ 65536) (hk : t.kind = 1) (hp40 : isT 40 l = true) {ag : List Ex} {n2 : Nat} {l2 : List Tok} (hlk : l.tail.length ≤ k) (hpx : PX (some []) d (n + 1) l.tail (.ok ag n2 l2)) :
    Calls Tryd.prog 30 #[.agg (rdA v e i n 0 0), .int .i64 d] w (RExprPost (.ok [.mk 3 t.text 0 [] ag] n2 l2) ts v e w) := by
  have hnot : ∀ (x : Bool) (w : World), (Op.unary .not (.bool x)).run Tryd.prog w = .ok (.bool (!x)) w := fun _ _ => rfl
  have hs := h.small
  obtain ⟨a, cap, rfl, hc1, hc2⟩ := h.form
  have HR := Lib.hid h; clear h
  have HE := Lib.hid (ES.start (w := w) (v := .slice a ts.length cap) (e := e) (i := i) (n := n))
  have hlt := (drop_cons_at ht).1
  have h57 := f57_any (i := i) e n 0 0 (RD.later HR.out HE.out.below)
  rw [ht] at h57
  simp only [kindT, hk] at h57
  go_enter Tryd.func30, Tryd.ntmps30
  go_wp2_with fail
  refine h57.mono ?_
  rintro en w1 ⟨rfl, hb1⟩
  have hes1 := HE.out.later hb1
  have hrd1 := RD.later HR.out hes1.below
  clear hb1 h57
  obtain ⟨⟨c0, c1, c2, c3, c4, c5⟩, ⟨f0, f1, f2, f3, f4, f5⟩, hpX⟩ := block6 hes1.hp
  have HES1 := Lib.hid hes1; clear hes1
  have hn3 : ((n : Int) == 1024) = false := by simpa using (show ¬ (n : Int) = 1024 by omega)
  go_upto_region 7 with fail
  have hes2 := HES1.out.setN (n + 1)
  rw [show ((n + 1 : Nat) : Int) = (n : Int) + 1 by omega] at hes2
  have HF2 : Hid (∀ W2, w1.setCell ⟨w.heap.size, 3, none⟩ (.int .i64 ((n : Int) + 1)) = W2 → ES w W2 (.slice a ts.length cap) e i (n + 1)) := Lib.hid (by rintro W2 rfl; exact hes2)
  clear hes2
  generalize hW2 : World.setCell w1 _ _ = W2
  have hes2 := HF2.out _ hW2
  clear hW2 HF2 c0 c1 c2 c3 c4 c5 f0 f1 f2 f3 f4 f5
  obtain ⟨⟨c0, c1, c2, c3, c4, c5⟩, ⟨f0, f1, f2, f3, f4, f5⟩, hpX⟩ := block6 hes2.hp
  have hrd2 := RD.later HR.out hes2.below
  obtain ⟨g, rfl, hg, _, k0, k1, k2, k3⟩ := hrd2.here ht
  have HES2 := Lib.hid hes2; clear hes2
  go_upto_region 9 with fail
  have HF3 : Hid (∀ O W3, (W2.setCell ⟨w.heap.size, 2, none⟩ (.int .i64 ((i : Int) + 1))).alloc O = W3 → ES w W3 (.slice (some ⟨g, 0, none⟩) ts.length cap) e (i + 1) (n + 1) ∧ W3.heap[W2.heap.size]? = some O) := Lib.hid (by
    rintro O W3 rfl
    have h1 := HES2.out.setI (i + 1)
    rw [show ((i + 1 : Nat) : Int) = (i : Int) + 1 by omega] at h1
    refine ⟨h1.later ((Below.refl _ _).alloc (Nat.le_refl _) _), ?_⟩
    have := heap_alloc_new (W2.setCell ⟨w.heap.size, 2, none⟩ (.int .i64 ((i : Int) + 1))) O; simpa using this)
  generalize hW3 : World.alloc (World.setCell W2 _ _) _ = W3
  obtain ⟨hes3, htk⟩ := HF3.out _ _ hW3
  clear hW3 HF3 c0 c1 c2 c3 c4 c5 f0 f1 f2 f3 f4 f5 k0 k1 k2 k3
  have hrd3 := RD.later HR.out hes3.below
  obtain ⟨⟨c0, c1, c2, c3, c4, c5⟩, ⟨f0, f1, f2, f3, f4, f5⟩, hpX⟩ := block6 hes3.hp
  rw [show ((i + 1 : Nat) : Int) = (i : Int) + 1 by omega] at c2
  rw [show ((n + 1 : Nat) : Int) = (n : Int) + 1 by omega] at c3
  obtain ⟨⟨x0, x1, x2, x3, x4⟩, ⟨y0, y1, y2, y3, y4⟩, hx3⟩ := block5 hes3.hx
  obtain ⟨⟨d0, d1, d2, d3, d4, d5⟩, ⟨g0, g1, g2, g3, g4, g5⟩, hq3⟩ := block6 hes3.hq
  have t0 : W3.cell? ⟨W2.heap.size, 0, none⟩ = some (.int .i64 t.kind) := by rw [Lib.cell_of_heap htk, hk]; rfl
  have t1 : W3.cell? ⟨W2.heap.size, 1, none⟩ = some (strV t.text) := by rw [Lib.cell_of_heap htk]; rfl
  have t2 : W3.cell? ⟨W2.heap.size, 2, none⟩ = some (.int .i64 t.n) := by rw [Lib.cell_of_heap htk]; rfl
  have hdn : ts.drop (i + 1) = l := by rw [← List.tail_drop, ht]; rfl
  have HES3 := Lib.hid hes3; clear hes3
  have HTK := Lib.hid htk; clear htk
  have h58b := f58_any (i := i + 1) 40 e ((n : Int) + 1) 0 0 hrd3
  rw [hdn, hp40, show ((i + 1 : Nat) : Int) = (i : Int) + 1 by omega] at h58b
  clear x0 x1 x2 x3 x4 y0 y1 y2 y3 y4 d0 d1 d2 d3 d4 d5 g0 g1 g2 g3 g4 g5 t0 t1 t2
  go_wp2_with fail
  refine h58b.mono ?_
  rintro en W4 ⟨rfl, hb4⟩
  have hes4 := HES3.out.later hb4
  have htk := (hb4.block _ (Array.getElem?_eq_some_iff.1 HTK.out).1).trans HTK.out
  clear hb4
  clear c0 c1 c2 c3 c4 c5 f0 f1 f2 f3 f4 f5
  obtain ⟨⟨c0, c1, c2, c3, c4, c5⟩, ⟨f0, f1, f2, f3, f4, f5⟩, hpX⟩ := block6 hes4.hp
  rw [show ((i + 1 : Nat) : Int) = (i : Int) + 1 by omega] at c2
  rw [show ((n + 1 : Nat) : Int) = (n : Int) + 1 by omega] at c3
  obtain ⟨⟨x0, x1, x2, x3, x4⟩, ⟨y0, y1, y2, y3, y4⟩, hx4⟩ := block5 hes4.hx
  obtain ⟨⟨d0, d1, d2, d3, d4, d5⟩, ⟨g0, g1, g2, g3, g4, g5⟩, hq4⟩ := block6 hes4.hq
  have t1 : W4.cell? ⟨W2.heap.size, 1, none⟩ = some (strV t.text) := by rw [Lib.cell_of_heap htk]; rfl
  have hrd4 := RD.later HR.out hes4.below
  have HES4 := Lib.hid hes4; clear hes4
  have HTK4 := Lib.hid htk; clear htk
  obtain ⟨q, l0, rfl⟩ : ∃ q l0, l = q :: l0 := by
    cases l with
    | nil => cases hp40
    | cons q l0 => exact ⟨q, l0, rfl⟩
  have hlt2 := (drop_cons_at hdn).1
  have hd2 : ts.drop (i + 2) = l0 := by rw [show i + 2 = (i + 1) + 1 from rfl, ← List.tail_drop, hdn]; rfl
  go_upto_region 17 with fail
  have HF6 : Hid (∀ W6, W4.setCell ⟨w.heap.size, 2, none⟩ (.int .i64 ((i : Int) + 1 + 1)) = W6 → ES w W6 (.slice (some ⟨g, 0, none⟩) ts.length cap) e (i + 2) (n + 1) ∧ W6.heap[W2.heap.size]? = W4.heap[W2.heap.size]?) := Lib.hid (by
    rintro W6 rfl
    have h1 := HES4.out.setI (i + 2)
    rw [show ((i + 2 : Nat) : Int) = (i : Int) + 1 + 1 by omega] at h1
    exact ⟨h1, set_far (by have := HES2.out.lt; omega)⟩)
  have hnrm : (i : Int) + 1 + 1 = (i : Int) + 2 := by omega
  generalize hW6 : World.setCell W4 _ _ = W6
  obtain ⟨hes6, htk6⟩ := HF6.out _ (by first | exact hW6 | (rw [hnrm]; exact hW6))
  have htk := htk6.trans HTK4.out
  clear hW6 HF6 htk6 x0 x1 x2 x3 x4 y0 y1 y2 y3 y4 d0 d1 d2 d3 d4 d5 g0 g1 g2 g3 g4 g5 t1
  clear c0 c1 c2 c3 c4 c5 f0 f1 f2 f3 f4 f5
  obtain ⟨⟨c0, c1, c2, c3, c4, c5⟩, ⟨f0, f1, f2, f3, f4, f5⟩, hpX⟩ := block6 hes6.hp
  have hrd6 := RD.later HR.out hes6.below
  have h60 := f60_of IH (d := d) (n := n + 1) (i := i + 2) (r := .ok ag n2 l2) (w := W6) (by rw [hd2]; exact hlk) hd (by omega) (by omega) he hrd6 (by rw [hd2]; exact hpx)
  rw [show ((i + 2 : Nat) : Int) = (i : Int) + 2 by omega, show ((n + 1 : Nat) : Int) = (n : Int) + 1 by omega, show ((d + 1 : Nat) : Int) = (d : Int) + 1 by omega] at h60
  rw [show ((i + 2 : Nat) : Int) = (i : Int) + 2 by omega] at c2
  rw [show ((n + 1 : Nat) : Int) = (n : Int) + 1 by omega] at c3
  have HES6 := Lib.hid hes6; clear hes6
  have HTK6 := Lib.hid htk; clear htk
  go_wp2_with fail
  refine h60.mono ?_
  rintro en W7 ⟨⟨lv, j2, hj2, hj3, rfl, hra⟩, hb7⟩
  obtain ⟨la, lc, rfl⟩ := RArgs_form hra
  have HESC := Lib.hid (HES6.out.later hb7)
  have hsz6 := HES6.out.lt
  have hsz7 := hb7.size
  have hW2 : W2.heap.size < W6.heap.size := (Array.getElem?_eq_some_iff.1 HTK6.out).1
  have htk := (hb7.block _ hW2).trans HTK6.out
  have HRA := Lib.hid hra; clear hra
  clear hb7 h60
  go_upto_region 18 with fail
  have HF5 : Hid (∀ O W5, W7.alloc O = W5 → ES w W5 (.slice (some ⟨g, 0, none⟩) ts.length cap) e (i + 2) (n + 1) ∧ W5.heap[W7.heap.size]? = some O ∧ (∀ b, b < W7.heap.size → W5.heap[b]? = W7.heap[b]?)) := Lib.hid (by
    rintro O W5 rfl
    have hb := (Below.refl W7.heap.size W7).alloc (Nat.le_refl _) O
    exact ⟨HESC.out.later hb, heap_alloc_new _ _, fun b hb2 => hb.block b hb2⟩)
  generalize hW5 : World.alloc W7 _ = W5
  obtain ⟨hes5, hq9, hold⟩ := HF5.out _ _ hW5
  clear hW5 HF5
  clear c0 c1 c2 c3 c4 c5 f0 f1 f2 f3 f4 f5
  obtain ⟨⟨x0, x1, x2, x3, x4⟩, ⟨y0, y1, y2, y3, y4⟩, hx5⟩ := block5 hes5.hx
  obtain ⟨⟨d0, d1, d2, d3, d4, d5⟩, ⟨g0, g1, g2, g3, g4, g5⟩, hq5⟩ := block6 hes5.hq
  obtain ⟨⟨c0, c1, c2, c3, c4, c5⟩, ⟨f0, f1, f2, f3, f4, f5⟩, hpX⟩ := block6 hq9
  have HES5 := Lib.hid hes5; clear hes5
  have t1 : W5.cell? ⟨W2.heap.size, 1, none⟩ = some (strV t.text) := by rw [Lib.cell_of_heap ((hold _ (by omega)).trans htk)]; rfl
  go_wp2_with fail
  go_region
  go_wp2_with fail
  have HF : Hid (∀ F, (put6w (put5w W5 (w.heap.size + 1) (.int .i64 3) (strV t.text) (.int .i64 0) (.slice none 0 0) (.slice la ag.length lc)) (w.heap.size + 1 + 1) (.slice (some ⟨g, 0, none⟩) ts.length cap) (.int .i64 e) (.int .i64 (j2 : Nat)) (.int .i64 (n2 : Nat)) (.int .i64 0) (.int .i64 0)).drew = F →
      F.heap[w.heap.size + 1]? = some (.cells #[.int .i64 3, strV t.text, .int .i64 0, .slice none 0 0, .slice la ag.length lc] 26 (0, 0)) ∧ F.heap[w.heap.size + 1 + 1]? = some (.cells (rdA (.slice (some ⟨g, 0, none⟩) ts.length cap) e (j2 : Nat) (n2 : Nat) 0 0) 55 (0, 0)) ∧ Below w.heap.size w F ∧ ∀ b, b ≠ w.heap.size + 1 → b ≠ w.heap.size + 1 + 1 → F.heap[b]? = W5.heap[b]?) := Lib.hid (by
    rintro F rfl
    obtain ⟨⟨q1, q2⟩, q3, q4⟩ := HES5.out.fin (.int .i64 3) (strV t.text) (.int .i64 0) (.slice none 0 0) (.slice la ag.length lc) (.slice (some ⟨g, 0, none⟩) ts.length cap) (.int .i64 e) (.int .i64 (j2 : Nat)) (.int .i64 (n2 : Nat)) (.int .i64 0) (.int .i64 0)
    exact drew_all q1 q2 q3 q4)
  generalize hF : World.drew _ = F
  obtain ⟨hfx, hfq, hfb, hfo⟩ := HF.out _ hF
  clear hF HF c0 c1 c2 c3 c4 c5 f0 f1 f2 f3 f4 f5 x0 x1 x2 x3 x4 y0 y1 y2 y3 y4 d0 d1 d2 d3 d4 d5 g0 g1 g2 g3 g4 g5
  obtain ⟨⟨x0, x1, x2, x3, x4⟩, -, -⟩ := block5 hfx
  obtain ⟨⟨d0, d1, d2, d3, d4, d5⟩, -, -⟩ := block6 hfq
  refine bodyPost_ret (v := .tuple #[.agg #[.int .i64 3, strV t.text, .int .i64 0, .slice none 0 0, .slice la ag.length lc], .agg (rdA (.slice (some ⟨g, 0, none⟩) ts.length cap) e (j2 : Nat) (n2 : Nat) 0 0)]) (by simp [results, Tryd.results30, go_sem, x0, x1, x2, x3, x4, d0, d1, d2, d3, d4, d5]) rfl ?_
  have hra := RArgs_keep (G := fun b => w.heap.size ≤ b) (w' := F) HRA.out (fun b h1 h2 => (hfo b (by omega) (by omega)).trans (hold b h2)) (fun b h => by omega)
  exact ⟨⟨_, _, j2, rfl, hj2, hj3, rfl, _, _, rfl, RInts_nil, hra⟩, hfb⟩

set_option maxRecDepth 100000 in
set_option maxHeartbeats 16000000 in
theorem f30_callErr {ts l : List Tok} {t : Tok} {v : Value} {e B d n i k : Nat} {w : World} (IH : Says30 ts v e B k) (hd : d ≤ 32) (hn : n ≤ 1024) (hn2 : n ≠ 1024) (h : RD w v ts B) (ht : ts.drop i = t :: l) (he : e ≤ 65536) (hk : t.kind = 1) (hp40 : isT 40 l = true) {c : Int} {l2 : List Tok} (hlk : l.tail.length ≤ k) (hpx : PX (some []) d (n + 1) l.tail (.err c l2)) :
    Calls Tryd.prog 30 #[.agg (rdA v e i n 0 0), .int .i64 d] w (RExprPost (.err c l2) ts v e w) := by
  have hnot : ∀ (x : Bool) (w : World), (Op.unary .not (.bool x)).run Tryd.prog w = .ok (.bool (!x)) w := fun _ _ => rfl
  have hs := h.small
  obtain ⟨a, cap, rfl, hc1, hc2⟩ := h.form
  have HR := Lib.hid h; clear h
  have HE := Lib.hid (ES.start (w := w) (v := .slice a ts.length cap) (e := e) (i := i) (n := n))
  have hlt := (drop_cons_at ht).1
  have h57 := f57_any (i := i) e n 0 0 (RD.later HR.out HE.out.below)
  rw [ht] at h57
  simp only [kindT, hk] at h57
  go_enter Tryd.func30, Tryd.ntmps30
  go_wp2_with fail
  refine h57.mono ?_
  rintro en w1 ⟨rfl, hb1⟩
  have hes1 := HE.out.later hb1
  have hrd1 := RD.later HR.out hes1.below
  clear hb1 h57
  obtain ⟨⟨c0, c1, c2, c3, c4, c5⟩, ⟨f0, f1, f2, f3, f4, f5⟩, hpX⟩ := block6 hes1.hp
  have HES1 := Lib.hid hes1; clear hes1
  have hn3 : ((n : Int) == 1024) = false := by simpa using (show ¬ (n : Int) = 1024 by omega)
  go_upto_region 7 with fail
  have hes2 := HES1.out.setN (n + 1)
  rw [show ((n + 1 : Nat) : Int) = (n : Int) + 1 by omega] at hes2
  have HF2 : Hid (∀ W2, w1.setCell ⟨w.heap.size, 3, none⟩ (.int .i64 ((n : Int) + 1)) = W2 → ES w W2 (.slice a ts.length cap) e i (n + 1)) := Lib.hid (by rintro W2 rfl; exact hes2)
  clear hes2
  generalize hW2 : World.setCell w1 _ _ = W2
  have hes2 := HF2.out _ hW2
  clear hW2 HF2 c0 c1 c2 c3 c4 c5 f0 f1 f2 f3 f4 f5
  obtain ⟨⟨c0, c1, c2, c3, c4, c5⟩, ⟨f0, f1, f2, f3, f4, f5⟩, hpX⟩ := block6 hes2.hp
  have hrd2 := RD.later HR.out hes2.below
  obtain ⟨g, rfl, hg, _, k0, k1, k2, k3⟩ := hrd2.here ht
  have HES2 := Lib.hid hes2; clear hes2
  go_upto_region 9 with fail
  have HF3 : Hid (∀ O W3, (W2.setCell ⟨w.heap.size, 2, none⟩ (.int .i64 ((i : Int) + 1))).alloc O = W3 → ES w W3 (.slice (some ⟨g, 0, none⟩) ts.length cap) e (i + 1) (n + 1) ∧ W3.heap[W2.heap.size]? = some O) := Lib.hid (by
    rintro O W3 rfl
    have h1 := HES2.out.setI (i + 1)
    rw [show ((i + 1 : Nat) : Int) = (i : Int) + 1 by omega] at h1
    refine ⟨h1.later ((Below.refl _ _).alloc (Nat.le_refl _) _), ?_⟩
    have := heap_alloc_new (W2.setCell ⟨w.heap.size, 2, none⟩ (.int .i64 ((i : Int) + 1))) O; simpa using this)
  generalize hW3 : World.alloc (World.setCell W2 _ _) _ = W3
  obtain ⟨hes3, htk⟩ := HF3.out _ _ hW3
  clear hW3 HF3 c0 c1 c2 c3 c4 c5 f0 f1 f2 f3 f4 f5 k0 k1 k2 k3
  have hrd3 := RD.later HR.out hes3.below
  obtain ⟨⟨c0, c1, c2, c3, c4, c5⟩, ⟨f0, f1, f2, f3, f4, f5⟩, hpX⟩ := block6 hes3.hp
  rw [show ((i + 1 : Nat) : Int) = (i : Int) + 1 by omega] at c2
  rw [show ((n + 1 : Nat) : Int) = (n : Int) + 1 by omega] at c3
  obtain ⟨⟨x0, x1, x2, x3, x4⟩, ⟨y0, y1, y2, y3, y4⟩, hx3⟩ := block5 hes3.hx
  obtain ⟨⟨d0, d1, d2, d3, d4, d5⟩, ⟨g0, g1, g2, g3, g4, g5⟩, hq3⟩ := block6 hes3.hq
  have t0 : W3.cell? ⟨W2.heap.size, 0, none⟩ = some (.int .i64 t.kind) := by rw [Lib.cell_of_heap htk, hk]; rfl
  have t1 : W3.cell? ⟨W2.heap.size, 1, none⟩ = some (strV t.text) := by rw [Lib.cell_of_heap htk]; rfl
  have t2 : W3.cell? ⟨W2.heap.size, 2, none⟩ = some (.int .i64 t.n) := by rw [Lib.cell_of_heap htk]; rfl
  have hdn : ts.drop (i + 1) = l := by rw [← List.tail_drop, ht]; rfl
  have HES3 := Lib.hid hes3; clear hes3
  have HTK := Lib.hid htk; clear htk
  have h58b := f58_any (i := i + 1) 40 e ((n : Int) + 1) 0 0 hrd3
  rw [hdn, hp40, show ((i + 1 : Nat) : Int) = (i : Int) + 1 by omega] at h58b
  clear x0 x1 x2 x3 x4 y0 y1 y2 y3 y4 d0 d1 d2 d3 d4 d5 g0 g1 g2 g3 g4 g5 t0 t1 t2
  go_wp2_with fail
  refine h58b.mono ?_
  rintro en W4 ⟨rfl, hb4⟩
  have hes4 := HES3.out.later hb4
  have htk := (hb4.block _ (Array.getElem?_eq_some_iff.1 HTK.out).1).trans HTK.out
  clear hb4
  clear c0 c1 c2 c3 c4 c5 f0 f1 f2 f3 f4 f5
  obtain ⟨⟨c0, c1, c2, c3, c4, c5⟩, ⟨f0, f1, f2, f3, f4, f5⟩, hpX⟩ := block6 hes4.hp
  rw [show ((i + 1 : Nat) : Int) = (i : Int) + 1 by omega] at c2
  rw [show ((n + 1 : Nat) : Int) = (n : Int) + 1 by omega] at c3
  obtain ⟨⟨x0, x1, x2, x3, x4⟩, ⟨y0, y1, y2, y3, y4⟩, hx4⟩ := block5 hes4.hx
  obtain ⟨⟨d0, d1, d2, d3, d4, d5⟩, ⟨g0, g1, g2, g3, g4, g5⟩, hq4⟩ := block6 hes4.hq
  have t1 : W4.cell? ⟨W2.heap.size, 1, none⟩ = some (strV t.text) := by rw [Lib.cell_of_heap htk]; rfl
  have hrd4 := RD.later HR.out hes4.below
  have HES4 := Lib.hid hes4; clear hes4
  have HTK4 := Lib.hid htk; clear htk
  obtain ⟨q, l0, rfl⟩ : ∃ q l0, l = q :: l0 := by
    cases l with
    | nil => cases hp40
    | cons q l0 => exact ⟨q, l0, rfl⟩
  have hlt2 := (drop_cons_at hdn).1
  have hd2 : ts.drop (i + 2) = l0 := by rw [show i + 2 = (i + 1) + 1 from rfl, ← List.tail_drop, hdn]; rfl
  go_upto_region 17 with fail
  have HF6 : Hid (∀ W6, W4.setCell ⟨w.heap.size, 2, none⟩ (.int .i64 ((i : Int) + 1 + 1)) = W6 → ES w W6 (.slice (some ⟨g, 0, none⟩) ts.length cap) e (i + 2) (n + 1) ∧ W6.heap[W2.heap.size]? = W4.heap[W2.heap.size]?) := Lib.hid (by
    rintro W6 rfl
    have h1 := HES4.out.setI (i + 2)
    rw [show ((i + 2 : Nat) : Int) = (i : Int) + 1 + 1 by omega] at h1
    exact ⟨h1, set_far (by have := HES2.out.lt; omega)⟩)
  have hnrm : (i : Int) + 1 + 1 = (i : Int) + 2 := by omega
  generalize hW6 : World.setCell W4 _ _ = W6
  obtain ⟨hes6, htk6⟩ := HF6.out _ (by first | exact hW6 | (rw [hnrm]; exact hW6))
  have htk := htk6.trans HTK4.out
  clear hW6 HF6 htk6 x0 x1 x2 x3 x4 y0 y1 y2 y3 y4 d0 d1 d2 d3 d4 d5 g0 g1 g2 g3 g4 g5 t1
  clear c0 c1 c2 c3 c4 c5 f0 f1 f2 f3 f4 f5
  obtain ⟨⟨c0, c1, c2, c3, c4, c5⟩, ⟨f0, f1, f2, f3, f4, f5⟩, hpX⟩ := block6 hes6.hp
  have hrd6 := RD.later HR.out hes6.below
  have h60 := f60_of IH (d := d) (n := n + 1) (i := i + 2) (r := .err c l2) (w := W6) (by rw [hd2]; exact hlk) hd (by omega) (by omega) he hrd6 (by rw [hd2]; exact hpx)
  rw [show ((i + 2 : Nat) : Int) = (i : Int) + 2 by omega, show ((n + 1 : Nat) : Int) = (n : Int) + 1 by omega, show ((d + 1 : Nat) : Int) = (d : Int) + 1 by omega] at h60
  rw [show ((i + 2 : Nat) : Int) = (i : Int) + 2 by omega] at c2
  rw [show ((n + 1 : Nat) : Int) = (n : Int) + 1 by omega] at c3
  have HES6 := Lib.hid hes6; clear hes6
  have HTK6 := Lib.hid htk; clear htk
  go_wp2_with fail
  refine h60.mono ?_
  rintro en W7 ⟨⟨n', j2, rfl⟩, hb7⟩
  have HESC := Lib.hid (HES6.out.later hb7)
  have hW2 : W2.heap.size < W6.heap.size := (Array.getElem?_eq_some_iff.1 HTK6.out).1
  have hsz7 := hb7.size
  have htk := (hb7.block _ hW2).trans HTK6.out
  clear hb7 h60
  go_upto_region 18 with fail
  have HF5 : Hid (∀ O W5, W7.alloc O = W5 → ES w W5 (.slice (some ⟨g, 0, none⟩) ts.length cap) e (i + 2) (n + 1) ∧ W5.heap[W7.heap.size]? = some O ∧ (∀ b, b < W7.heap.size → W5.heap[b]? = W7.heap[b]?)) := Lib.hid (by
    rintro O W5 rfl
    have hb := (Below.refl W7.heap.size W7).alloc (Nat.le_refl _) O
    exact ⟨HESC.out.later hb, heap_alloc_new _ _, fun b hb2 => hb.block b hb2⟩)
  generalize hW5 : World.alloc W7 _ = W5
  obtain ⟨hes5, hq9, hold⟩ := HF5.out _ _ hW5
  clear hW5 HF5
  clear c0 c1 c2 c3 c4 c5 f0 f1 f2 f3 f4 f5
  obtain ⟨⟨x0, x1, x2, x3, x4⟩, ⟨y0, y1, y2, y3, y4⟩, hx5⟩ := block5 hes5.hx
  obtain ⟨⟨d0, d1, d2, d3, d4, d5⟩, ⟨g0, g1, g2, g3, g4, g5⟩, hq5⟩ := block6 hes5.hq
  obtain ⟨⟨c0, c1, c2, c3, c4, c5⟩, ⟨f0, f1, f2, f3, f4, f5⟩, hpX⟩ := block6 hq9
  have HES5 := Lib.hid hes5; clear hes5
  have t1 : W5.cell? ⟨W2.heap.size, 1, none⟩ = some (strV t.text) := by rw [Lib.cell_of_heap ((hold _ (by omega)).trans htk)]; rfl
  go_wp2_with fail
  go_region
  go_wp2_with fail
  have HF : Hid (∀ F, (put6w (put5w W5 (w.heap.size + 1) (.int .i64 3) (strV t.text) (.int .i64 0) (.slice none 0 0) (.slice none 0 0)) (w.heap.size + 1 + 1) (.slice (some ⟨g, 0, none⟩) ts.length cap) (.int .i64 e) (.int .i64 (j2 : Nat)) (.int .i64 n') (.int .i64 c) (.int .i64 (posT e l2 : Nat))).drew = F →
      F.heap[w.heap.size + 1]? = some (.cells #[.int .i64 3, strV t.text, .int .i64 0, .slice none 0 0, .slice none 0 0] 26 (0, 0)) ∧ F.heap[w.heap.size + 1 + 1]? = some (.cells (rdA (.slice (some ⟨g, 0, none⟩) ts.length cap) e (j2 : Nat) n' c (posT e l2 : Nat)) 55 (0, 0)) ∧ Below w.heap.size w F ∧ ∀ b, b ≠ w.heap.size + 1 → b ≠ w.heap.size + 1 + 1 → F.heap[b]? = W5.heap[b]?) := Lib.hid (by
    rintro F rfl
    obtain ⟨⟨q1, q2⟩, q3, q4⟩ := HES5.out.fin (.int .i64 3) (strV t.text) (.int .i64 0) (.slice none 0 0) (.slice none 0 0) (.slice (some ⟨g, 0, none⟩) ts.length cap) (.int .i64 e) (.int .i64 (j2 : Nat)) (.int .i64 n') (.int .i64 c) (.int .i64 (posT e l2 : Nat))
    exact drew_all q1 q2 q3 q4)
  generalize hF : World.drew _ = F
  obtain ⟨hfx, hfq, hfb, hfo⟩ := HF.out _ hF
  clear hF HF c0 c1 c2 c3 c4 c5 f0 f1 f2 f3 f4 f5 x0 x1 x2 x3 x4 y0 y1 y2 y3 y4 d0 d1 d2 d3 d4 d5 g0 g1 g2 g3 g4 g5
  obtain ⟨⟨x0, x1, x2, x3, x4⟩, -, -⟩ := block5 hfx
  obtain ⟨⟨d0, d1, d2, d3, d4, d5⟩, -, -⟩ := block6 hfq
  refine bodyPost_ret (v := .tuple #[.agg #[.int .i64 3, strV t.text, .int .i64 0, .slice none 0 0, .slice none 0 0], .agg (rdA (.slice (some ⟨g, 0, none⟩) ts.length cap) e (j2 : Nat) n' c (posT e l2 : Nat))]) (by simp [results, Tryd.results30, go_sem, x0, x1, x2, x3, x4, d0, d1, d2, d3, d4, d5]) rfl ?_
  exact ⟨⟨3, 0, n', t.text, j2, rfl⟩, hfb⟩


def kinds3 (ts : List Tok) : Prop := ∀ t ∈ ts, t.kind = 1 ∨ t.kind = 2 ∨ t.kind = 3
theorem isS_kind {t : Tok} {c : UInt8} (h : isS t c = true) : t.kind = 3 := by
  simp only [isS, Bool.and_eq_true, beq_iff_eq] at h; exact h.1

theorem f30_all {ts : List Tok} {v : Value} {e B : Nat} (he : e ≤ 65536) (hk3 : kinds3 ts) : ∀ k, Says30 ts v e B k
  | 0 => fun d n i r w hl hd hn hi h hx => by
    have h0 : ts.drop i = [] := List.length_eq_zero_iff.1 (by omega)
    rw [h0] at hx
    have hr : r = .err 14 [] := by
      cases hx with
      | bad _ => rfl
      | deep hb _ => cases hb
    subst hr
    exact f30_nil h h0
  | k + 1 => fun d n i r w hl hd hn hi h hx => by
    have IH := f30_all (v := v) (B := B) he hk3 k
    cases hdr : ts.drop i with
    | nil =>
      rw [hdr] at hx
      have hr : r = .err 14 [] := by
        cases hx with
        | bad _ => rfl
        | deep hb _ => cases hb
      subst hr
      exact f30_nil h hdr
    | cons t l =>
      have hm : t ∈ ts := by
        have : t ∈ ts.drop i := by rw [hdr]; exact List.mem_cons_self ..
        exact List.mem_of_mem_drop this
      have hlen : l.length ≤ k := by rw [hdr] at hl; simp at hl; exact hl
      rw [hdr] at hx
      rcases hk3 t hm with hk | hk | hk
      · -- a name
        have hb : begins (t :: l) = true := by simp [begins, kindT, hk]
        have hns : ∀ c, isS t c = false := fun c => by simp [isS, hk]
        by_cases hdd : 32 < d
        · have hr : r = .err 8 (t :: l) := by
            cases hx with
            | bad h => rw [h] at hb; cases hb
            | deep _ _ => rfl
            | num hk' hd' _ => omega
            | list hk' hd' _ _ => omega
            | listErr hk' hd' _ _ => omega
            | name hk' hd' _ _ => omega
            | call hk' hd' _ _ _ => omega
            | callErr hk' hd' _ _ _ => omega
          subst hr
          exact f30_deepd1 hd h hdr hk hdd
        · by_cases hnn : n = 1024
          · have hr : r = .err 8 (t :: l) := by
              cases hx with
              | bad h => rw [h] at hb; cases hb
              | deep _ _ => rfl
              | num _ _ hn' => exact absurd hnn hn'
              | list _ _ hn' _ => exact absurd hnn hn'
              | listErr _ _ hn' _ => exact absurd hnn hn'
              | name _ _ hn' _ => exact absurd hnn hn'
              | call _ _ hn' _ _ => exact absurd hnn hn'
              | callErr _ _ hn' _ _ => exact absurd hnn hn'
            subst hr
            exact f30_deepn1 (by omega) h hdr hk hnn
          · cases hx with
            | bad h => rw [h] at hb; cases hb
            | deep _ h => omega
            | num hk' _ _ => rw [hk] at hk'; cases hk'
            | list hk' _ _ _ => rw [hns] at hk'; cases hk'
            | listErr hk' _ _ _ => rw [hns] at hk'; cases hk'
            | name hk' hd' hn' hp => exact f30_name hd' hn hn' h hdr hk hp
            | call hk' hd' hn' hp hx => exact f30_call IH hd' hn hn' h hdr he hk hp (by simp at hlen ⊢; omega) hx
            | callErr hk' hd' hn' hp hx => exact f30_callErr IH hd' hn hn' h hdr he hk hp (by simp at hlen ⊢; omega) hx
      · -- a number
        have hb : begins (t :: l) = true := by simp [begins, kindT, hk]
        have hns : ∀ c, isS t c = false := fun c => by simp [isS, hk]
        by_cases hdd : 32 < d
        · have hr : r = .err 8 (t :: l) := by
            cases hx with
            | bad h => rw [h] at hb; cases hb
            | deep _ _ => rfl
            | num hk' hd' _ => omega
            | list hk' hd' _ _ => omega
            | listErr hk' hd' _ _ => omega
            | name hk' hd' _ _ => omega
            | call hk' hd' _ _ _ => omega
            | callErr hk' hd' _ _ _ => omega
          subst hr
          exact f30_deepd2 hd h hdr hk hdd
        · by_cases hnn : n = 1024
          · have hr : r = .err 8 (t :: l) := by
              cases hx with
              | bad h => rw [h] at hb; cases hb
              | deep _ _ => rfl
              | num _ _ hn' => exact absurd hnn hn'
              | list _ _ hn' _ => exact absurd hnn hn'
              | listErr _ _ hn' _ => exact absurd hnn hn'
              | name _ _ hn' _ => exact absurd hnn hn'
              | call _ _ hn' _ _ => exact absurd hnn hn'
              | callErr _ _ hn' _ _ => exact absurd hnn hn'
            subst hr
            exact f30_deepn2 (by omega) h hdr hk hnn
          · cases hx with
            | bad h => rw [h] at hb; cases hb
            | deep _ h => omega
            | num hk' hd' hn' => exact f30_num hd' hn hn' h hdr hk
            | list hk' _ _ _ => rw [hns] at hk'; cases hk'
            | listErr hk' _ _ _ => rw [hns] at hk'; cases hk'
            | name hk' _ _ _ => rw [hk] at hk'; cases hk'
            | call hk' _ _ _ _ => rw [hk] at hk'; cases hk'
            | callErr hk' _ _ _ _ => rw [hk] at hk'; cases hk'
      · -- a sign
        cases h91 : isS t 91 with
        | false =>
          have hb : begins (t :: l) = false := by simp [begins, isT, h91, kindT, hk]
          have hr : r = .err 14 (t :: l) := by
            cases hx with
            | bad _ => rfl
            | deep h _ => rw [hb] at h; cases h
            | num hk' _ _ => rw [hk] at hk'; cases hk'
            | list hk' _ _ _ => rw [h91] at hk'; cases hk'
            | listErr hk' _ _ _ => rw [h91] at hk'; cases hk'
            | name hk' _ _ _ => rw [hk] at hk'; cases hk'
            | call hk' _ _ _ _ => rw [hk] at hk'; cases hk'
            | callErr hk' _ _ _ _ => rw [hk] at hk'; cases hk'
          subst hr
          exact f30_sign h hdr hk h91
        | true =>
          have hb : begins (t :: l) = true := by simp [begins, isT, h91]
          by_cases hdd : 32 < d
          · have hr : r = .err 8 (t :: l) := by
              cases hx with
              | bad h => rw [h] at hb; cases hb
              | deep _ _ => rfl
              | num hk' hd' _ => omega
              | list hk' hd' _ _ => omega
              | listErr hk' hd' _ _ => omega
              | name hk' hd' _ _ => omega
              | call hk' hd' _ _ _ => omega
              | callErr hk' hd' _ _ _ => omega
            subst hr
            exact f30_deepd3 hd h hdr hk h91 hdd
          · by_cases hnn : n = 1024
            · have hr : r = .err 8 (t :: l) := by
                cases hx with
                | bad h => rw [h] at hb; cases hb
                | deep _ _ => rfl
                | num _ _ hn' => exact absurd hnn hn'
                | list _ _ hn' _ => exact absurd hnn hn'
                | listErr _ _ hn' _ => exact absurd hnn hn'
                | name _ _ hn' _ => exact absurd hnn hn'
                | call _ _ hn' _ _ => exact absurd hnn hn'
                | callErr _ _ hn' _ _ => exact absurd hnn hn'
              subst hr
              exact f30_deepn3 (by omega) h hdr hk h91 hnn
            · cases hx with
              | bad h => rw [h] at hb; cases hb
              | deep _ h => omega
              | num hk' _ _ => rw [hk] at hk'; cases hk'
              | list hk' hd' hn' hl => exact f30_list hd' hn hn' h hdr he hk h91 hl
              | listErr hk' hd' hn' hl => exact f30_listErr hd' hn hn' h hdr he hk h91 hl
              | name hk' _ _ _ => rw [hk] at hk'; cases hk'
              | call hk' _ _ _ _ => rw [hk] at hk'; cases hk'
              | callErr hk' _ _ _ _ => rw [hk] at hk'; cases hk'
end Go.Proofs.YtcaaadhhaanbcaaDoor
