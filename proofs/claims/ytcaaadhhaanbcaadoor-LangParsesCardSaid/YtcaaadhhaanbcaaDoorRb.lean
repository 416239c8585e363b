/- The walk of the reference reader's list. -/
import Derived.Test.YtcaaadhhaanbcaaDoorRa
namespace Go.Proofs.YtcaaadhhaanbcaaDoor
open Go.RowKit

/-- What the list of the reference's reader answers. -/
def RListPost (r : LR) (ts : List Tok) (v : Value) (e : Nat) (n : Int) (w : World) (en : Ending) (w' : World) : Prop :=
  (match r with
  | .ok zs rest => ∃ (i' : Nat) (lv : Value), ts.drop i' = rest ∧ i' ≤ ts.length ∧ en = .returned (.tuple #[lv, .agg (rdA v e i' n 0 0)]) ∧ RInts (fun b => w.heap.size ≤ b) w' lv zs
  | .err c rest => ∃ (i' : Nat), en = .returned (.tuple #[.slice none 0 0, .agg (rdA v e i' n c (posT e rest : Nat))])) ∧ Below w.heap.size w w'

theorem block6 {w : World} {p : Nat} {a b c d e f : Value} (h : w.heap[p]? = some (.cells #[a, b, c, d, e, f] 55 (0, 0))) :
    (w.cell? ⟨p, 0, none⟩ = some a ∧ w.cell? ⟨p, 1, none⟩ = some b ∧ w.cell? ⟨p, 2, none⟩ = some c ∧ w.cell? ⟨p, 3, none⟩ = some d ∧ w.cell? ⟨p, 4, none⟩ = some e ∧ w.cell? ⟨p, 5, none⟩ = some f) ∧
    (w.frozen? ⟨p, 0, none⟩ = false ∧ w.frozen? ⟨p, 1, none⟩ = false ∧ w.frozen? ⟨p, 2, none⟩ = false ∧ w.frozen? ⟨p, 3, none⟩ = false ∧ w.frozen? ⟨p, 4, none⟩ = false ∧ w.frozen? ⟨p, 5, none⟩ = false) ∧ p < w.heap.size := by
  refine ⟨⟨?_, ?_, ?_, ?_, ?_, ?_⟩, ⟨?_, ?_, ?_, ?_, ?_, ?_⟩, (Array.getElem?_eq_some_iff.1 h).1⟩ <;> simp [World.cell?, World.frozen?, h]

abbrev zero6 : Obj := .cells #[.slice none 0 0, .int .i64 0, .int .i64 0, .int .i64 0, .int .i64 0, .int .i64 0] 55 (0, 0)

theorem rd_set {w : World} {p : Nat} {a b c d e f : Value} (h : w.heap[p]? = some (.cells #[a, b, c, d, e, f] 55 (0, 0))) (x : Value) : (w.setCell ⟨p, 2, none⟩ x).heap[p]? = some (.cells #[a, b, x, d, e, f] 55 (0, 0)) := by
  simp [World.setCell, Array.getElem?_modify, h]
theorem set_far {w : World} {p k : Nat} {o : Nat} {x : Value} (hne : k ≠ p) : (w.setCell ⟨p, o, none⟩ x).heap[k]? = w.heap[k]? := Below.heap_setCell _ _ _ _ (fun e => hne e)

abbrev put6w (w : World) (q : Nat) (a b c d e f : Value) : World :=
  (((((w.setCell ⟨q, 0, none⟩ a).setCell ⟨q, 1, none⟩ b).setCell ⟨q, 2, none⟩ c).setCell ⟨q, 3, none⟩ d).setCell ⟨q, 4, none⟩ e).setCell ⟨q, 5, none⟩ f
theorem put6 {w : World} {q : Nat} {a' b' c' d' e' f' : Value} (h : w.heap[q]? = some (.cells #[a', b', c', d', e', f'] 55 (0, 0))) (a b c d e f : Value) :
    (put6w w q a b c d e f).heap[q]? = some (.cells #[a, b, c, d, e, f] 55 (0, 0)) := by
  simp [put6w, World.setCell, Array.getElem?_modify, h]
theorem put6_below {B : Nat} {w0 w : World} {q : Nat} (h : Below B w0 w) (hq : B ≤ q) (a b c d e f : Value) : Below B w0 (put6w w q a b c d e f) :=
  (((((h.setCell (p := ⟨q, 0, none⟩) hq _).setCell (p := ⟨q, 1, none⟩) hq _).setCell (p := ⟨q, 2, none⟩) hq _).setCell (p := ⟨q, 3, none⟩) hq _).setCell (p := ⟨q, 4, none⟩) hq _).setCell (p := ⟨q, 5, none⟩) hq _

theorem own_put6 {w : World} {B e size n q : Nat} {v : Value} {xs : List Value} (h : w.ownsRow B e size v n xs) (hb : v.ownBlock ≠ some q) {a b c d e' f : Value} : (put6w w q a b c d e' f).ownsRow B e size v n xs :=
  own_setw (own_setw (own_setw (own_setw (own_setw (own_setw h hb) hb) hb) hb) hb) hb
theorem RInts_drew {G : Nat → Prop} {w : World} {v : Value} {zs : List Int} (h : RInts G w v zs) : RInts G w.drew v zs := RInts_mono (fun _ _ _ hb hc => ⟨hb, hc⟩) h

/-- The state of the list's loop: the reader in its block, the result's block still zero, the numbers so far. -/
structure LS (w0 W : World) (v : Value) (e : Nat) (n : Int) (i : Nat) (o : Value) (acc : List Int) : Prop where
  hp : W.heap[w0.heap.size]? = some (.cells (rdA v e i n 0 0) 55 (0, 0))
  hq : W.heap[w0.heap.size + 1]? = some zero6
  own : W.ownsRow w0.heap.size 3 1 o acc.length (intsV acc)
  below : Below w0.heap.size w0 W

theorem LS.later {w0 W W' : World} {v o : Value} {e i : Nat} {n : Int} {acc : List Int} (h : LS w0 W v e n i o acc) (hb : Below W.heap.size W W') : LS w0 W' v e n i o acc :=
  ⟨(hb.block _ (Array.getElem?_eq_some_iff.1 h.hp).1).trans h.hp, (hb.block _ (Array.getElem?_eq_some_iff.1 h.hq).1).trans h.hq, own_below h.own hb, h.below.trans (hb.mono h.below.size)⟩
theorem LS.next {w0 W : World} {v o : Value} {e i : Nat} {n : Int} {acc : List Int} (h : LS w0 W v e n i o acc) (j : Nat) : LS w0 (W.setCell ⟨w0.heap.size, 2, none⟩ (.int .i64 j)) v e n j o acc :=
  ⟨rd_set h.hp _, (set_far (by omega)).trans h.hq, own_setw h.own (own_ne h.own h.hp (by decide)), h.below.setCell (p := ⟨_, 2, none⟩) (Nat.le_refl _) _⟩
def nextOf (p : Nat) (w : World) : Nat := match w.cell? ⟨p, 2, none⟩ with | some (.int _ i) => i.toNat | _ => 0
theorem LS.nextOf {w0 W : World} {v o : Value} {e i : Nat} {n : Int} {acc : List Int} (h : LS w0 W v e n i o acc) : nextOf w0.heap.size W = i := by
  unfold YtcaaadhhaanbcaaDoor.nextOf; rw [(block6 h.hp).1.2.2.1]; simp

set_option maxRecDepth 100000 in
set_option maxHeartbeats 8000000 in
theorem f59_any {w : World} {v : Value} {ts : List Tok} {B i e : Nat} (n : Int) (h : RD w v ts B) (hi : i ≤ ts.length) (_he : e ≤ 65536) :
    Calls Tryd.prog 59 #[.agg (rdA v e i n 0 0)] w (RListPost (pList (ts.drop i)) ts v e n w) := by
  have hnot : ∀ (x : Bool) (w : World), (Op.unary .not (.bool x)).run Tryd.prog w = .ok (.bool (!x)) w := fun _ _ => rfl
  have hs := h.small
  obtain ⟨a, cap, rfl, hc1, hc2⟩ := h.form
  have HR := Lib.hid h; clear h
  have HN := Lib.hid (fun (o1 o2 : Obj) => ((Below.refl w.heap.size w).alloc (Nat.le_refl _) o1).alloc (show w.heap.size ≤ _ by simp) o2)
  cases h93 : isT 93 (ts.drop i) with
  | true =>
    have HP : Hid (pList (ts.drop i) = .ok [] (ts.drop i).tail) := Lib.hid (by unfold pList; rw [if_pos h93])
    have hlt : i < ts.length := by
      rcases Nat.lt_or_ge i ts.length with h | h
      · exact h
      · rw [List.drop_eq_nil_of_le h] at h93; cases h93
    go_enter Tryd.func59, Tryd.ntmps59
    go_wp2_with fail
    have h58 := f58_any (B := B) (i := i) 93 e n 0 0 (RD.later HR.out (HN.out (Obj.cells (rdA (Value.slice a ts.length cap) e i n 0 0) 55) zero6))
    rw [h93] at h58
    refine h58.mono ?_
    rintro en w1 ⟨rfl, hb1⟩
    have hp1 : w1.heap[w.heap.size]? = some (.cells (rdA (.slice a ts.length cap) e i n 0 0) 55 (0, 0)) := by
      rw [hb1.block _ (by simp; omega), heap_alloc_old _ _ (by simp), heap_alloc_new]
    have hq1 : w1.heap[w.heap.size + 1]? = some zero6 := by
      rw [hb1.block _ (by simp)]; have := heap_alloc_new (w.alloc (Obj.cells (rdA (Value.slice a ts.length cap) e i n 0 0) 55)) zero6; simpa using this
    have HB1 := Lib.hid ((HN.out _ _).trans (hb1.mono (by simp; omega)))
    clear hb1
    obtain ⟨⟨c0, c1, c2, c3, c4, c5⟩, ⟨f0, f1, f2, f3, f4, f5⟩, hp⟩ := block6 hp1
    obtain ⟨⟨d0, d1, d2, d3, d4, d5⟩, ⟨g0, g1, g2, g3, g4, g5⟩, hq⟩ := block6 hq1
    go_wp2_with fail
    go_region
    go_wp2_with fail
    have HF := put6 (w := w1.setCell ⟨w.heap.size, 2, none⟩ (.int .i64 ((i : Int) + 1))) (q := w.heap.size + 1) ((set_far (by omega)).trans hq1) (.slice a ts.length cap) (.int .i64 e) (.int .i64 ((i : Int) + 1)) (.int .i64 n) (.int .i64 0) (.int .i64 0)
    obtain ⟨⟨q0, q1, q2, q3, q4, q5⟩, _, _⟩ := block6 HF
    refine bodyPost_ret (v := .tuple #[.slice none 0 0, .agg (rdA (.slice a ts.length cap) e ((i : Int) + 1) n 0 0)]) (by simp [results, Tryd.results59, go_sem, q0, q1, q2, q3, q4, q5]) rfl ?_
    unfold RListPost
    rw [HP.out]
    exact ⟨⟨i + 1, _, by rw [List.tail_drop], by omega, rfl, RInts_nil⟩, (put6_below (HB1.out.setCell (p := ⟨w.heap.size, 2, none⟩) (Nat.le_refl _) _) (by omega) _ _ _ _ _ _).drew⟩
  | false =>
    have HP : Hid (pList (ts.drop i) = pNums [] (ts.drop i)) := Lib.hid (by unfold pList; rw [if_neg (by rw [h93]; decide)])
    go_enter Tryd.func59, Tryd.ntmps59
    go_wp2_with fail
    have h58 := f58_any (B := B) (i := i) 93 e n 0 0 (RD.later HR.out (HN.out (Obj.cells (rdA (Value.slice a ts.length cap) e i n 0 0) 55) zero6))
    rw [h93] at h58
    refine h58.mono ?_
    rintro en w1 ⟨rfl, hb1⟩
    have hp1 : w1.heap[w.heap.size]? = some (.cells (rdA (.slice a ts.length cap) e i n 0 0) 55 (0, 0)) := by
      rw [hb1.block _ (by simp; omega), heap_alloc_old _ _ (by simp), heap_alloc_new]
    have hq1 : w1.heap[w.heap.size + 1]? = some zero6 := by
      rw [hb1.block _ (by simp)]; have := heap_alloc_new (w.alloc (Obj.cells (rdA (Value.slice a ts.length cap) e i n 0 0) 55)) zero6; simpa using this
    have HLS1 := Lib.hid (LS.mk (acc := []) (o := .slice none 0 0) hp1 hq1 (World.ownsRow_nil _ _ _ _) ((HN.out _ _).trans (hb1.mono (by simp; omega))))
    clear hb1 hp1 hq1
    go_wp2_with fail
    go_loopw [4] (fun o wr => ∃ (j : Nat) (acc : List Int), j ≤ ts.length ∧ acc.length ≤ j ∧ LS w wr (.slice a ts.length cap) e n j o acc ∧ pNums acc (ts.drop j) = pList (ts.drop i)) (fun _ wr => ts.length - nextOf w.heap.size wr)
    case atStart => exact ⟨i, [], hi, by simp, HLS1.out, HP.out.symm⟩
    case round =>
      obtain ⟨j, acc, hj, haj, hls, hpn⟩ := hrel
      have HPN := Lib.hid hpn; clear hpn
      clear HLS1
      have HJ := Lib.hid hls.nextOf
      obtain ⟨⟨c0, c1, c2, c3, c4, c5⟩, ⟨f0, f1, f2, f3, f4, f5⟩, hp⟩ := block6 hls.hp
      obtain ⟨⟨d0, d1, d2, d3, d4, d5⟩, ⟨g0, g1, g2, g3, g4, g5⟩, hq⟩ := block6 hls.hq
      have hrd := RD.later HR.out hls.below
      have h57 := f57_any (i := j) e n 0 0 hrd
      obtain ⟨oa, oc, rfl⟩ := own_form hls.own
      cases hd : ts.drop j with
      | nil =>
        skip
        rw [hd] at h57
        have HLS := Lib.hid hls; clear hls
        go_wp2_with fail
        refine h57.mono ?_
        rintro en w2 ⟨rfl, hb2⟩
        have hls2 := HLS.out.later hb2
        have hrd2 := hrd.later hb2
        clear hb2
        have h31 := f31_any (i := j) (e := e) n 14 hrd2
        rw [hd] at h31
        clear c0 c1 c2 c3 c4 c5 f0 f1 f2 f3 f4 f5 d0 d1 d2 d3 d4 d5 g0 g1 g2 g3 g4 g5
        obtain ⟨⟨c0, c1, c2, c3, c4, c5⟩, ⟨f0, f1, f2, f3, f4, f5⟩, hpX⟩ := block6 hls2.hp
        have HLSX := Lib.hid hls2; clear hls2
        go_wp2_with fail
        refine h31.mono ?_
        rintro en wE ⟨rfl, hbE⟩
        have hlsE := HLSX.out.later hbE
        obtain ⟨⟨d0, d1, d2, d3, d4, d5⟩, ⟨g0, g1, g2, g3, g4, g5⟩, hqE⟩ := block6 hlsE.hq
        go_wp2_with fail
        have HF := put6 (w := wE) (q := w.heap.size + 1) hlsE.hq (.slice a ts.length cap) (.int .i64 e) (.int .i64 (j : Nat)) (.int .i64 n) (.int .i64 14) (.int .i64 (posT e [] : Nat))
        obtain ⟨⟨q0, q1, q2, q3, q4, q5⟩, _, _⟩ := block6 HF
        refine bodyPost_ret (v := .tuple #[.slice none 0 0, .agg (rdA (.slice a ts.length cap) e (j : Nat) n 14 (posT e [] : Nat))]) (by first | simp [results, Tryd.results59, go_sem, q0, q1, q2, q3, q4, q5] | (simp only [Int.natCast_add, Int.natCast_one] at q2; simp [results, Tryd.results59, go_sem, q0, q1, q2, q3, q4, q5])) rfl ?_
        unfold RListPost
        rw [← HPN.out, show pNums acc (ts.drop j) = .err 14 [] from by rw [hd]; rfl]
        exact ⟨⟨j, rfl⟩, put6_below hlsE.below (by omega) _ _ _ _ _ _⟩
      | cons t r =>
        have hdn : ts.drop (j + 1) = r := by rw [← List.tail_drop, hd]; rfl
        have hlt := (drop_cons_at hd).1
        by_cases hk : t.kind = 2
        · have h57' : Calls Tryd.prog 57 #[.agg (rdA (.slice a ts.length cap) e j n 0 0)] wr fun en w' => en = .returned (.int .i64 2) ∧ Below wr.heap.size wr w' := by
            rw [hd] at h57; simpa [kindT, hk] using h57
          clear h57
          have HLS := Lib.hid hls; clear hls
          by_cases h4096 : acc.length = 4096
          · skip
            go_wp2_with fail
            refine h57'.mono ?_
            rintro en w2 ⟨rfl, hb2⟩
            have hls2 := HLS.out.later hb2
            have hrd2 := hrd.later hb2
            clear hb2
            have h31 := f31_any (i := j) (e := e) n 8 hrd2
            rw [hd] at h31
            clear c0 c1 c2 c3 c4 c5 f0 f1 f2 f3 f4 f5 d0 d1 d2 d3 d4 d5 g0 g1 g2 g3 g4 g5
            obtain ⟨⟨c0, c1, c2, c3, c4, c5⟩, ⟨f0, f1, f2, f3, f4, f5⟩, hpX⟩ := block6 hls2.hp
            have HLSX := Lib.hid hls2; clear hls2
            go_wp2_with fail
            refine h31.mono ?_
            rintro en wE ⟨rfl, hbE⟩
            have hlsE := HLSX.out.later hbE
            obtain ⟨⟨d0, d1, d2, d3, d4, d5⟩, ⟨g0, g1, g2, g3, g4, g5⟩, hqE⟩ := block6 hlsE.hq
            go_wp2_with fail
            have HF := put6 (w := wE) (q := w.heap.size + 1) hlsE.hq (.slice a ts.length cap) (.int .i64 e) (.int .i64 (j : Nat)) (.int .i64 n) (.int .i64 8) (.int .i64 (posT e (t :: r) : Nat))
            obtain ⟨⟨q0, q1, q2, q3, q4, q5⟩, _, _⟩ := block6 HF
            refine bodyPost_ret (v := .tuple #[.slice none 0 0, .agg (rdA (.slice a ts.length cap) e (j : Nat) n 8 (posT e (t :: r) : Nat))]) (by first | simp [results, Tryd.results59, go_sem, q0, q1, q2, q3, q4, q5] | (simp only [Int.natCast_add, Int.natCast_one] at q2; simp [results, Tryd.results59, go_sem, q0, q1, q2, q3, q4, q5])) rfl ?_
            unfold RListPost
            rw [← HPN.out, show pNums acc (ts.drop j) = .err 8 (t :: r) from by rw [hd]; unfold pNums; rw [if_neg (by simp [hk]), if_pos h4096]]
            exact ⟨⟨j, rfl⟩, put6_below hlsE.below (by omega) _ _ _ _ _ _⟩
          · skip
            have h4i : ((acc.length : Int) == 4096) = false := by simpa using (show ¬ (acc.length : Int) = 4096 by omega)
            go_wp2_with fail
            refine h57'.mono ?_
            rintro en w2 ⟨rfl, hb2⟩
            have hls2 := HLS.out.later hb2
            have hrd2 := hrd.later hb2
            clear hb2
            obtain ⟨g, rfl, hg, _, k0, k1, k2, k3⟩ := hrd2.here hd
            clear c0 c1 c2 c3 c4 c5 f0 f1 f2 f3 f4 f5 d0 d1 d2 d3 d4 d5 g0 g1 g2 g3 g4 g5
            obtain ⟨⟨c0, c1, c2, c3, c4, c5⟩, ⟨f0, f1, f2, f3, f4, f5⟩, hp2⟩ := block6 hls2.hp
            have HLS2 := Lib.hid hls2; clear hls2
            go_wp2_with (at_builtin; refine append_cells (w0 := w) w.heap.size rfl _ _ 23 3 _ 1 8 rfl Tryd.underlying23 intInfo rfl (by decide) (by decide) (.slice oa acc.length oc) acc.length (intsV acc) [.int .i64 t.n] rfl rfl rfl ?h1 HLS2.out.own HLS2.out.below ?hb ?hl ?_)
            case h1 => first | rfl | (intro u hu; simp at hu; subst hu; rfl)
            case hb => exact HLS2.out.below.size
            case hl => omega
            intro gg cc w3 ho3 hb3 hgrow hgg
            have hvp := own_ne HLS2.out.own HLS2.out.hp (by decide)
            have hvq := own_ne HLS2.out.own HLS2.out.hq (by decide)
            have hls3 : LS w w3 (.slice (some ⟨g, 0, none⟩) ts.length cap) e n j (.slice (some ⟨gg, 0, none⟩) (acc.length + 1) cc) (acc ++ [t.n]) :=
              ⟨(hgrow.block _ (block6 HLS2.out.hp).2.2 (fun e => hvp e.symm)).trans HLS2.out.hp, (hgrow.block _ (block6 HLS2.out.hq).2.2 (fun e => hvq e.symm)).trans HLS2.out.hq,
                by rw [List.length_append]; simpa [intsV] using ho3, hb3⟩
            clear hvp hvq ho3 hgrow c0 c1 c2 c3 c4 c5 f0 f1 f2 f3 f4 f5
            obtain ⟨⟨c0, c1, c2, c3, c4, c5⟩, ⟨f0, f1, f2, f3, f4, f5⟩, hp3⟩ := block6 hls3.hp
            have hls4 := hls3.next (j + 1)
            have hrd4 := RD.later HR.out hls4.below
            rw [show ((j + 1 : Nat) : Int) = (j : Int) + 1 by omega] at hls4 hrd4
            have h58b := f58_any (i := j + 1) 93 e n 0 0 hrd4
            rw [hdn, show ((j + 1 : Nat) : Int) = (j : Int) + 1 by omega] at h58b
            have HLS4 := Lib.hid hls4; clear hls4 hls3
            go_wp2_with fail
            refine h58b.mono ?_
            rintro en w5 ⟨rfl, hb5⟩
            have hls5 := HLS4.out.later hb5
            have hrd5 := hrd4.later hb5
            clear hb5 c0 c1 c2 c3 c4 c5 f0 f1 f2 f3 f4 f5
            obtain ⟨⟨c0, c1, c2, c3, c4, c5⟩, ⟨f0, f1, f2, f3, f4, f5⟩, hp5⟩ := block6 hls5.hp
            obtain ⟨⟨d0, d1, d2, d3, d4, d5⟩, ⟨g0, g1, g2, g3, g4, g5⟩, hq5⟩ := block6 hls5.hq
            cases h93b : isT 93 r
            · have h58c := f58_any (i := j + 1) 44 e n 0 0 hrd5
              rw [hdn, show ((j + 1 : Nat) : Int) = (j : Int) + 1 by omega] at h58c
              have HLS5 := Lib.hid hls5; clear hls5
              go_wp2_with fail
              refine h58c.mono ?_
              rintro en w6 ⟨rfl, hb6⟩
              have hls6 := HLS5.out.later hb6
              have hrd6 := hrd5.later hb6
              clear hb6
              cases h44b : isT 44 r
              · have hls7 : LS w w6 (.slice (some ⟨g, 0, none⟩) ts.length cap) e n (j + 1) (.slice (some ⟨gg, 0, none⟩) (acc.length + 1) cc) (acc ++ [t.n]) := hls6
                clear hls6
                have h31 := f31_any (i := (j + 1)) (e := e) n 14 hrd6
                rw [hdn] at h31
                clear c0 c1 c2 c3 c4 c5 f0 f1 f2 f3 f4 f5 d0 d1 d2 d3 d4 d5 g0 g1 g2 g3 g4 g5
                obtain ⟨⟨c0, c1, c2, c3, c4, c5⟩, ⟨f0, f1, f2, f3, f4, f5⟩, hpX⟩ := block6 hls7.hp
                have HLSX := Lib.hid hls7; clear hls7
                go_wp2_with fail
                refine h31.mono ?_
                rintro en wE ⟨rfl, hbE⟩
                have hlsE := HLSX.out.later hbE
                obtain ⟨⟨d0, d1, d2, d3, d4, d5⟩, ⟨g0, g1, g2, g3, g4, g5⟩, hqE⟩ := block6 hlsE.hq
                go_wp2_with fail
                have HF := put6 (w := wE) (q := w.heap.size + 1) hlsE.hq (.slice (some ⟨g, 0, none⟩) ts.length cap) (.int .i64 e) (.int .i64 ((j : Int) + 1)) (.int .i64 n) (.int .i64 14) (.int .i64 (posT e r : Nat))
                obtain ⟨⟨q0, q1, q2, q3, q4, q5⟩, _, _⟩ := block6 HF
                refine bodyPost_ret (v := .tuple #[.slice none 0 0, .agg (rdA (.slice (some ⟨g, 0, none⟩) ts.length cap) e ((j : Int) + 1) n 14 (posT e r : Nat))]) (by first | simp [results, Tryd.results59, go_sem, q0, q1, q2, q3, q4, q5] | (simp only [Int.natCast_add, Int.natCast_one] at q2; simp [results, Tryd.results59, go_sem, q0, q1, q2, q3, q4, q5])) rfl ?_
                unfold RListPost
                rw [← HPN.out, show pNums acc (ts.drop j) = .err 14 r from by rw [hd]; unfold pNums; rw [if_neg (by simp [hk]), if_neg h4096]; cases r with | nil => rfl | cons c r2 => (simp only [isT] at h93b h44b; simp [h93b, h44b])]
                exact ⟨⟨(j + 1), rfl⟩, put6_below hlsE.below (by omega) _ _ _ _ _ _⟩
              · clear c0 c1 c2 c3 c4 c5 f0 f1 f2 f3 f4 f5 d0 d1 d2 d3 d4 d5 g0 g1 g2 g3 g4 g5
                obtain ⟨⟨c0, c1, c2, c3, c4, c5⟩, ⟨f0, f1, f2, f3, f4, f5⟩, hp6⟩ := block6 hls6.hp
                have hls7 := hls6.next (j + 2)
                have HLS7 := Lib.hid hls7; clear hls7 hls6
                obtain ⟨c, r2, rfl⟩ : ∃ c r2, r = c :: r2 := by
                  cases r with
                  | nil => cases h44b
                  | cons c r2 => exact ⟨c, r2, rfl⟩
                have hlt2 := (drop_cons_at hdn).1
                have hd2 : ts.drop (j + 2) = r2 := by rw [show j + 2 = (j + 1) + 1 from rfl, ← List.tail_drop, hdn]; rfl
                have hwr : (j : Int) + 1 + 1 = ((j + 2 : Nat) : Int) := by omega
                go_wp2_with fail
                refine ⟨⟨j + 2, acc ++ [t.n], by omega, by simp; omega, by simpa [hwr] using HLS7.out, ?_⟩, ?_⟩
                · rw [← HPN.out, hd, hd2]; conv => rhs; unfold pNums
                  simp only [isT] at h93b h44b
                  rw [if_neg (by simp [hk]), if_neg h4096]; simp [h93b, h44b]
                · rw [HJ.out]
                  have := HLS7.out.nextOf
                  rw [show ((j + 2 : Nat) : Int) = (j : Int) + 2 by omega] at this
                  rw [this]; omega
            · have hls6 := hls5.next (j + 2)
              obtain ⟨c, r2, rfl⟩ : ∃ c r2, r = c :: r2 := by
                cases r with
                | nil => cases h93b
                | cons c r2 => exact ⟨c, r2, rfl⟩
              have hlt2 := (drop_cons_at hdn).1
              have hd2 : ts.drop (j + 2) = r2 := by rw [show j + 2 = (j + 1) + 1 from rfl, ← List.tail_drop, hdn]; rfl
              have HLS6 := Lib.hid hls6
              have hwr : (j : Int) + 1 + 1 = ((j + 2 : Nat) : Int) := by omega
              go_wp2_with fail
              go_region
              go_wp2_with fail
              have h2 : ((j + 2 : Nat) : Int) = (j : Int) + 2 := by omega
              rw [h2] at hls6 HLS6
              have HF := put6 (w := w5.setCell ⟨w.heap.size, 2, none⟩ (.int .i64 ((j : Int) + 2))) (q := w.heap.size + 1) hls6.hq (.slice (some ⟨g, 0, none⟩) ts.length cap) (.int .i64 e) (.int .i64 ((j : Int) + 2)) (.int .i64 n) (.int .i64 0) (.int .i64 0)
              obtain ⟨⟨q0, q1, q2, q3, q4, q5⟩, _, _⟩ := block6 HF
              have hnq := own_ne hls6.own hls6.hq (by decide)
              refine bodyPost_ret (v := .tuple #[.slice (some ⟨gg, 0, none⟩) (acc.length + 1) cc, .agg (rdA (.slice (some ⟨g, 0, none⟩) ts.length cap) e ((j : Int) + 2) n 0 0)]) (by simp [results, Tryd.results59, go_sem, q0, q1, q2, q3, q4, q5]) rfl ?_
              unfold RListPost
              rw [← HPN.out, show pNums acc (ts.drop j) = .ok (acc ++ [t.n]) r2 from by
                rw [hd]; unfold pNums; rw [if_neg (by simp [hk]), if_neg h4096]; simp only [isT] at h93b; simp [h93b]]
              refine ⟨⟨j + 2, _, hd2, by omega, rfl, ?_⟩, (put6_below hls6.below (by omega) _ _ _ _ _ _).drew⟩
              exact RInts_drew (RInts_own (own_put6 hls6.own hnq) (fun _ hb => hb))
        · skip
          have hk2 : (t.kind == 2) = false := by simpa using hk
          rw [hd] at h57
          simp only [kindT] at h57
          have HLS := Lib.hid hls; clear hls
          go_wp2_with fail
          refine h57.mono ?_
          rintro en w2 ⟨rfl, hb2⟩
          have hls2 := HLS.out.later hb2
          have hrd2 := hrd.later hb2
          clear hb2
          have h31 := f31_any (i := j) (e := e) n 14 hrd2
          rw [hd] at h31
          clear c0 c1 c2 c3 c4 c5 f0 f1 f2 f3 f4 f5 d0 d1 d2 d3 d4 d5 g0 g1 g2 g3 g4 g5
          obtain ⟨⟨c0, c1, c2, c3, c4, c5⟩, ⟨f0, f1, f2, f3, f4, f5⟩, hpX⟩ := block6 hls2.hp
          have HLSX := Lib.hid hls2; clear hls2
          go_wp2_with fail
          refine h31.mono ?_
          rintro en wE ⟨rfl, hbE⟩
          have hlsE := HLSX.out.later hbE
          obtain ⟨⟨d0, d1, d2, d3, d4, d5⟩, ⟨g0, g1, g2, g3, g4, g5⟩, hqE⟩ := block6 hlsE.hq
          go_wp2_with fail
          have HF := put6 (w := wE) (q := w.heap.size + 1) hlsE.hq (.slice a ts.length cap) (.int .i64 e) (.int .i64 (j : Nat)) (.int .i64 n) (.int .i64 14) (.int .i64 (posT e (t :: r) : Nat))
          obtain ⟨⟨q0, q1, q2, q3, q4, q5⟩, _, _⟩ := block6 HF
          refine bodyPost_ret (v := .tuple #[.slice none 0 0, .agg (rdA (.slice a ts.length cap) e (j : Nat) n 14 (posT e (t :: r) : Nat))]) (by first | simp [results, Tryd.results59, go_sem, q0, q1, q2, q3, q4, q5] | (simp only [Int.natCast_add, Int.natCast_one] at q2; simp [results, Tryd.results59, go_sem, q0, q1, q2, q3, q4, q5])) rfl ?_
          unfold RListPost
          rw [← HPN.out, show pNums acc (ts.drop j) = .err 14 (t :: r) from by rw [hd]; unfold pNums; rw [if_pos hk]]
          exact ⟨⟨j, rfl⟩, put6_below hlsE.below (by omega) _ _ _ _ _ _⟩
end Go.Proofs.YtcaaadhhaanbcaaDoor
