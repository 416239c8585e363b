/- The walk of the reference reader's arguments. -/
import Derived.Test.YtcaaadhhaanbcaaDoorRc
import Derived.Deep.Cut
namespace Go.Proofs.YtcaaadhhaanbcaaDoor
open Go.RowKit

theorem PX.inv41 {acc : List Ex} {d n : Nat} {l : List Tok} {r : PR} (h : PX (some acc) d n l r) (h41 : isT 41 l = true) : r = .ok acc n l.tail := by
  cases h with
  | done ht => rfl
  | sep ht hs => rw [h41] at ht; cases ht
  | arg ht hs hx h => rw [h41] at ht; cases ht
  | argErr ht hs hx => rw [h41] at ht; cases ht
theorem PX.invArg {acc : List Ex} {d n : Nat} {l : List Tok} {r : PR} (h : PX (some acc) d n l r) (h41 : isT 41 l = false) :
    (sepT acc l = none ∧ r = .err 14 l) ∨ ∃ l1, sepT acc l = some l1 ∧ ((∃ x n2 l2, PX none (d + 1) n l1 (.ok [x] n2 l2) ∧ PX (some (acc ++ [x])) d n2 l2 r) ∨ ∃ c l2, PX none (d + 1) n l1 (.err c l2) ∧ r = .err c l2) := by
  cases h with
  | done ht => simp only [isT] at h41; rw [h41] at ht; cases ht
  | sep ht hs => exact .inl ⟨hs, rfl⟩
  | arg ht hs hx h => exact .inr ⟨_, hs, .inl ⟨_, _, _, hx, h⟩⟩
  | argErr ht hs hx => exact .inr ⟨_, hs, .inr ⟨_, _, hx, rfl⟩⟩

theorem RArgs_drew {G : Nat → Prop} {w : World} {v : Value} {ag : List Ex} (h : RArgs G w v ag) : RArgs G w.drew v ag := RArgs_mono (w := w) (w' := w.drew) (fun _ _ _ hb hc => ⟨hb, hc⟩) h
theorem put6_cell {w : World} {q b o : Nat} {a' b' c d e f : Value} (hb : b ≠ q) : (put6w w q a' b' c d e f).cell? ⟨b, o, none⟩ = w.cell? ⟨b, o, none⟩ := by
  refine World.cell?_of_block ?_
  simp only [put6w]; rw [set_far hb, set_far hb, set_far hb, set_far hb, set_far hb, set_far hb]
theorem AS.out {w0 W : World} {v o : Value} {e i n : Nat} {acc : List Ex} {cells : List Value} (h : AS w0 W v e i n o acc cells) (a b c d f g : Value) : RArgs (fun b => w0.heap.size ≤ b) (put6w W (w0.heap.size + 1) a b c d f g).drew o acc := by
  have hn := own_ne h.own h.hq (by decide)
  have hown := own_put6 (a := a) (b := b) (c := c) (d := d) (e' := f) (f := g) h.own hn
  have hcell : ∀ b' o', b' ≠ w0.heap.size + 1 → (put6w W (w0.heap.size + 1) a b c d f g).cell? ⟨b', o', none⟩ = W.cell? ⟨b', o', none⟩ := fun b' o' hb => put6_cell hb
  generalize put6w W (w0.heap.size + 1) a b c d f g = W' at *
  exact RArgs_drew (RArgs_own hown (RXs_mono (fun b' o' u hg hu => ⟨hg.1, by rw [hcell b' o' hg.2.2.1]; exact hu⟩) acc _ _ (fun _ _ hj => hj) h.xs) (fun _ hb => hb))
theorem sepT_more {acc : List Ex} {x : Ex} {l : List Tok} : sepT (acc ++ [x]) l = if isT 44 l then some l.tail else none := by
  unfold sepT
  rw [if_neg (by simp)]
theorem inv_stop {acc : List Ex} {x : Ex} {d n : Nat} {l : List Tok} {r : PR} (h : PX (some (acc ++ [x])) d n l r) (h41 : isT 41 l = false) (h44 : isT 44 l = false) : r = .err 14 l := by
  rcases PX.invArg h h41 with ⟨_, h⟩ | ⟨l1, h1, _⟩
  · exact h
  · rw [sepT_more, if_neg (by rw [h44]; decide)] at h1; cases h1

set_option maxRecDepth 100000 in
set_option maxHeartbeats 16000000 in
theorem f60_of {ts : List Tok} {v : Value} {e B k d n i : Nat} {r : PR} {w : World} (IH : Says30 ts v e B k) (hk : (ts.drop i).length ≤ k) (hd : d ≤ 32) (hn : n ≤ 1024) (hi : i ≤ ts.length) (_he : e ≤ 65536) (h : RD w v ts B) (hpx : PX (some []) d n (ts.drop i) r) :
    Calls Tryd.prog 60 #[.agg (rdA v e i n 0 0), .int .i64 (d + 1 : Nat)] w (RArgsPost r ts v e w) := by
  have hnot : ∀ (x : Bool) (w : World), (Op.unary .not (.bool x)).run Tryd.prog w = .ok (.bool (!x)) w := fun _ _ => rfl
  have hs := h.small
  obtain ⟨a, cap, rfl, hc1, hc2⟩ := h.form
  have HR := Lib.hid h; clear h
  have HI := Lib.hid IH; clear IH
  have HN := Lib.hid (fun (o1 o2 : Obj) => ((Below.refl w.heap.size w).alloc (Nat.le_refl _) o1).alloc (show w.heap.size ≤ _ by simp) o2)
  have hpos : ∀ l : List Tok, (posT e l : Int) = (posT e l : Int) := fun _ => rfl
  clear hpos
  cases h41 : isT 41 (ts.drop i) with
  | true =>
    have HP := Lib.hid (PX.inv41 hpx h41)
    clear hpx
    have hlt : i < ts.length := by
      rcases Nat.lt_or_ge i ts.length with h | h
      · exact h
      · rw [List.drop_eq_nil_of_le h] at h41; cases h41
    go_enter Tryd.func60, Tryd.ntmps60
    go_wp2_with fail
    have h58 := f58_any (B := B) (i := i) 41 e n 0 0 (RD.later HR.out (HN.out (Obj.cells (rdA (Value.slice a ts.length cap) e i n 0 0) 55) zero6))
    rw [h41] at h58
    refine h58.mono ?_
    rintro en w1 ⟨rfl, hb1⟩
    have hp1 : w1.heap[w.heap.size]? = some (.cells (rdA (.slice a ts.length cap) e i n 0 0) 55 (0, 0)) := by
      rw [hb1.block _ (by simp; omega), heap_alloc_old _ _ (by simp), heap_alloc_new]
    have hq1 : w1.heap[w.heap.size + 1]? = some zero6 := by
      rw [hb1.block _ (by simp)]; have := heap_alloc_new (w.alloc (Obj.cells (rdA (Value.slice a ts.length cap) e i n 0 0) 55)) zero6; simpa using this
    have HB1 := Lib.hid ((HN.out _ _).trans (hb1.mono (by simp; omega)))
    clear hb1
    obtain ⟨⟨c0, c1, c2, c3, c4, c5⟩, ⟨f0, f1, f2, f3, f4, f5⟩, hp⟩ := block6 hp1
    obtain ⟨⟨d0, d1, d2, d3, d4, d5⟩, ⟨g0, g1, g2, g3, g4, g5⟩, hq⟩ := block6 hq1
    go_wp2_with fail
    go_region
    go_wp2_with fail
    have HF := put6 (w := w1.setCell ⟨w.heap.size, 2, none⟩ (.int .i64 ((i : Int) + 1))) (q := w.heap.size + 1) ((set_far (by omega)).trans hq1) (.slice a ts.length cap) (.int .i64 e) (.int .i64 ((i : Int) + 1)) (.int .i64 n) (.int .i64 0) (.int .i64 0)
    obtain ⟨⟨q0, q1, q2, q3, q4, q5⟩, _, _⟩ := block6 HF
    refine bodyPost_ret (v := .tuple #[.slice none 0 0, .agg (rdA (.slice a ts.length cap) e ((i : Int) + 1) n 0 0)]) (by simp [results, Tryd.results60, go_sem, q0, q1, q2, q3, q4, q5]) rfl ?_
    unfold RArgsPost
    rw [HP.out]
    exact ⟨⟨_, i + 1, by rw [List.tail_drop], by omega, rfl, RArgs_nil⟩, (put6_below (HB1.out.setCell (p := ⟨w.heap.size, 2, none⟩) (Nat.le_refl _) _) (by omega) _ _ _ _ _ _).drew⟩
  | false =>
    go_enter Tryd.func60, Tryd.ntmps60
    go_wp2_with fail
    have h58 := f58_any (B := B) (i := i) 41 e n 0 0 (RD.later HR.out (HN.out (Obj.cells (rdA (Value.slice a ts.length cap) e i n 0 0) 55) zero6))
    rw [h41] at h58
    refine h58.mono ?_
    rintro en w1 ⟨rfl, hb1⟩
    have hp1 : w1.heap[w.heap.size]? = some (.cells (rdA (.slice a ts.length cap) e i n 0 0) 55 (0, 0)) := by
      rw [hb1.block _ (by simp; omega), heap_alloc_old _ _ (by simp), heap_alloc_new]
    have hq1 : w1.heap[w.heap.size + 1]? = some zero6 := by
      rw [hb1.block _ (by simp)]; have := heap_alloc_new (w.alloc (Obj.cells (rdA (Value.slice a ts.length cap) e i n 0 0) 55)) zero6; simpa using this
    have HAS1 := Lib.hid (AS.mk (acc := []) (cells := []) (o := .slice none 0 0) hp1 hq1 (World.ownsRow_nil _ _ _ _) RXs_nil ((HN.out _ _).trans (hb1.mono (by simp; omega))))
    clear hb1 hp1 hq1
    go_wp2_with fail
    go_loopw [6] (fun o wr => ∃ (j m : Nat) (acc : List Ex) (cells : List Value), j ≤ ts.length ∧ m ≤ 1024 ∧ acc.length ≤ j ∧ (ts.drop j).length ≤ k ∧ AS w wr (.slice a ts.length cap) e j m o acc cells ∧ ∃ L, isT 41 L = false ∧ sepT acc L = some (ts.drop j) ∧ PX (some acc) d m L r) (fun _ wr => ts.length - nextOf w.heap.size wr)
    case atStart => exact ⟨i, n, [], [], hi, hn, by simp, hk, HAS1.out, ts.drop i, h41, rfl, hpx⟩
    case round =>
      clear hpx h41 hk hn hi HAS1
      obtain ⟨j, m, acc, cells, hj, hm, haj, hjk, has, L, hL41, hLs, hpx⟩ := hrel
      have HJ : Hid (nextOf w.heap.size wr = j) := Lib.hid (by unfold nextOf; rw [(block6 has.hp).1.2.2.1]; simp)
      obtain ⟨⟨c0, c1, c2, c3, c4, c5⟩, ⟨f0, f1, f2, f3, f4, f5⟩, hp⟩ := block6 has.hp
      have hrd := RD.later HR.out has.below
      obtain ⟨oa, oc, rfl⟩ := own_formX has.own
      have HAS := Lib.hid has; clear has
      rcases PX.invArg hpx hL41 with ⟨h1, _⟩ | ⟨l1, h1, hx⟩
      · rw [hLs] at h1; cases h1
      · rw [hLs] at h1
        obtain rfl := (Option.some.inj h1).symm
        clear hpx hL41 hLs h1
        rcases hx with ⟨x, n2, l2, hx1, hx2⟩ | ⟨c, l2, hx1, rfl⟩
        · have H30 := Lib.hid (HI.out (d + 1) m j _ wr hjk (by omega) hm hj hrd hx1)
          have hsh := PX.shorter hx1 _ _ _ rfl
          have hn2 := PX.nodes hx1 hm _ _ _ rfl
          clear hx1
          go_wp2_with fail
          refine H30.out.mono ?_
          rintro en w3 ⟨⟨x', cs, j2, hxx, hdr, hj2, rfl, hxv⟩, hb3⟩
          obtain rfl : x = x' := (List.cons.inj hxx).1
          have has3 := HAS.out.later hb3
          have hsz3 := hb3.size
          obtain ⟨la, lc, aa, ac, rfl, -, -, g1, g2, g3, g4⟩ := XV_five hxv
          have HXV := Lib.hid hxv; clear hxv hxx
          clear c0 c1 c2 c3 c4 c5 f0 f1 f2 f3 f4 f5
          obtain ⟨⟨c0, c1, c2, c3, c4, c5⟩, ⟨f0, f1, f2, f3, f4, f5⟩, hp3⟩ := block6 has3.hp
          have HAS3 := Lib.hid has3; clear has3
          have Hb3 := Lib.hid hb3; clear hb3
          go_upto_region 6 with fail
          have HF4 : Hid (∀ O1 O2 W4, (w3.alloc O1).alloc O2 = W4 → AS w W4 (.slice a ts.length cap) e j m (.slice oa acc.length oc) acc cells ∧ Below w3.heap.size w3 W4 ∧ W4.heap[w3.heap.size]? = some O1 ∧ W4.heap[w3.heap.size + 1]? = some O2 ∧ W4.heap.size = w3.heap.size + 2) := Lib.hid (by
            rintro O1 O2 W4 rfl
            have hb := ((Below.refl w3.heap.size w3).alloc (Nat.le_refl _) O1).alloc (show w3.heap.size ≤ _ by simp) O2
            refine ⟨HAS3.out.later hb, hb, by rw [heap_alloc_old _ _ (by simp), heap_alloc_new], ?_, by simp⟩
            have := heap_alloc_new (w3.alloc O1) O2; simpa using this)
          generalize hW4 : World.alloc (World.alloc w3 _) _ = W4
          obtain ⟨has4, hb4, hx4, hq4, hs4⟩ := HF4.out _ _ _ hW4
          clear hW4 HF4 c0 c1 c2 c3 c4 c5 f0 f1 f2 f3 f4 f5
          obtain ⟨⟨c0, c1, c2, c3, c4, c5⟩, ⟨f0, f1, f2, f3, f4, f5⟩, hp4⟩ := block6 has4.hp
          obtain ⟨⟨d0, d1, d2, d3, d4, d5⟩, -, -⟩ := block6 hq4
          have hxv4 := XV_mono (w' := W4) (G' := fun b => wr.heap.size ≤ b) (fun b o u hg hu => ⟨hg, by rw [hb4.cell (World.block_lt_of_cell? w3 _ hu)]; exact hu⟩) HXV.out
          have HXV4 := Lib.hid hxv4; clear hxv4
          have HAS4 := Lib.hid has4; clear has4
          have Hx4 := Lib.hid hx4; clear hx4
          have Hb4 := Lib.hid hb4; clear hb4 hq4
          go_upto_region 7 with fail
          have HF5 : Hid (∀ W5, put6w W4 w.heap.size (.slice a ts.length cap) (.int .i64 e) (.int .i64 j2) (.int .i64 n2) (.int .i64 0) (.int .i64 0) = W5 → AS w W5 (.slice a ts.length cap) e j2 n2 (.slice oa acc.length oc) acc cells ∧ (∀ b, b ≠ w.heap.size → W5.heap[b]? = W4.heap[b]?) ∧ W5.heap.size = W4.heap.size) := Lib.hid (by
            rintro W5 rfl
            refine ⟨HAS4.out.put j2 n2, fun b hb => ?_, by simp [put6w, World.setCell]⟩
            simp only [put6w]; rw [set_far hb, set_far hb, set_far hb, set_far hb, set_far hb, set_far hb])
          generalize hW5 : World.setCell (World.setCell (World.setCell (World.setCell (World.setCell (World.setCell W4 _ _) _ _) _ _) _ _) _ _) _ _ = W5
          obtain ⟨has5, hfar5, hs5⟩ := HF5.out _ hW5
          have hwsz : w.heap.size + 2 ≤ wr.heap.size := (Array.getElem?_eq_some_iff.1 HAS.out.hq).1
          have hx5 := (hfar5 w3.heap.size (by omega)).trans Hx4.out
          have hxv5 := XV_mono (w' := W5) (G' := fun b => wr.heap.size ≤ b) (fun b o u hg hu => ⟨hg, by rw [← hu]; exact World.cell?_of_block (hfar5 b (by have : wr.heap.size ≤ b := hg; omega))⟩) HXV4.out
          have HXV5 := Lib.hid hxv5; clear hxv5 hfar5
          clear hW5 HF5 c0 c1 c2 c3 c4 c5 f0 f1 f2 f3 f4 f5 d0 d1 d2 d3 d4 d5
          obtain ⟨⟨c0, c1, c2, c3, c4, c5⟩, ⟨f0, f1, f2, f3, f4, f5⟩, hp5⟩ := block6 has5.hp
          have x0 : W5.cell? ⟨w3.heap.size, 0, none⟩ = some (.int .i64 x.kind) := by rw [Lib.cell_of_heap hx5]; rfl
          have x1 : W5.cell? ⟨w3.heap.size, 1, none⟩ = some (strV x.name) := by rw [Lib.cell_of_heap hx5]; rfl
          have x2 : W5.cell? ⟨w3.heap.size, 2, none⟩ = some (.int .i64 x.n) := by rw [Lib.cell_of_heap hx5]; rfl
          have x3 : W5.cell? ⟨w3.heap.size, 3, none⟩ = some (.slice la x.list.length lc) := by rw [Lib.cell_of_heap hx5]; rfl
          have x4 : W5.cell? ⟨w3.heap.size, 4, none⟩ = some (.slice aa x.args.length ac) := by rw [Lib.cell_of_heap hx5]; rfl
          clear hx5
          have HS5 := Lib.hid hs5; clear hs5
          have HS4 := Lib.hid hs4; clear hs4
          have hw3lt : w3.heap.size < W5.heap.size := by rw [HS5.out, HS4.out]; omega
          have HAS5 := Lib.hid has5; clear has5
          go_wp2_with (at_builtin; refine append_cells_at (w0 := w) w.heap.size rfl _ _ 24 26 _ 5 80 rfl Tryd.underlying24 exInfo rfl (by decide) (by decide) (.slice oa acc.length oc) acc.length cells [.int .i64 x.kind, strV x.name, .int .i64 x.n, .slice la x.list.length lc, .slice aa x.args.length ac] rfl rfl rfl ?h1 HAS5.out.own HAS5.out.below ?hb ?hl ?_)
          case h1 => intro u hu; simp at hu; rcases hu with rfl | rfl | rfl | rfl | rfl <;> rfl
          case hb => exact HAS5.out.below.size
          case hl => omega
          intro gg cc W6 ho6 hb6 hgrow hat
          have has6 := HAS5.out.snoc HXV5.out (S := wr.heap.size) (fun g' hg' => (HAS.out.own.lt g' hg').2) hwsz ho6 hb6 hgrow hat
          clear ho6 hgrow hat x0 x1 x2 x3 x4 c0 c1 c2 c3 c4 c5 f0 f1 f2 f3 f4 f5 HXV5 HXV4 HXV
          obtain ⟨⟨c0, c1, c2, c3, c4, c5⟩, ⟨f0, f1, f2, f3, f4, f5⟩, hp6⟩ := block6 has6.hp
          have hrd6 := RD.later HR.out hb6
          have h58b := f58_any (i := j2) 41 e n2 0 0 hrd6
          rw [hdr] at h58b
          have HAS6 := Lib.hid has6; clear has6 hb6
          go_wp2_with fail
          refine h58b.mono ?_
          rintro en W7 ⟨rfl, hb7⟩
          have has7 := HAS6.out.later hb7
          have hrd7 := hrd6.later hb7
          clear hb7 c0 c1 c2 c3 c4 c5 f0 f1 f2 f3 f4 f5
          obtain ⟨⟨c0, c1, c2, c3, c4, c5⟩, ⟨f0, f1, f2, f3, f4, f5⟩, hp7⟩ := block6 has7.hp
          obtain ⟨⟨d0, d1, d2, d3, d4, d5⟩, ⟨g0, g1, g2, g3, g4, g5⟩, hq7⟩ := block6 has7.hq
          cases h41b : isT 41 l2
          · have h58c := f58_any (i := j2) 44 e n2 0 0 hrd7
            rw [hdr] at h58c
            have HAS7 := Lib.hid has7; clear has7
            go_wp2_with fail
            refine h58c.mono ?_
            rintro en W8 ⟨rfl, hb8⟩
            have has8 := HAS7.out.later hb8
            have hrd8 := hrd7.later hb8
            clear hb8 c0 c1 c2 c3 c4 c5 f0 f1 f2 f3 f4 f5 d0 d1 d2 d3 d4 d5 g0 g1 g2 g3 g4 g5
            obtain ⟨⟨c0, c1, c2, c3, c4, c5⟩, ⟨f0, f1, f2, f3, f4, f5⟩, hp8⟩ := block6 has8.hp
            cases h44b : isT 44 l2
            · have HP := Lib.hid (inv_stop hx2 h41b h44b)
              have h31 := f31_any (i := j2) (e := e) n2 14 hrd8
              rw [hdr] at h31
              have HAS8 := Lib.hid has8; clear has8
              go_wp2_with fail
              refine h31.mono ?_
              rintro en W9 ⟨rfl, hb9⟩
              have has9 := HAS8.out.later hb9
              obtain ⟨⟨d0, d1, d2, d3, d4, d5⟩, ⟨g0, g1, g2, g3, g4, g5⟩, hq9⟩ := block6 has9.hq
              go_wp2_with fail
              have HF := put6 (w := W9) (q := w.heap.size + 1) has9.hq (.slice a ts.length cap) (.int .i64 e) (.int .i64 j2) (.int .i64 n2) (.int .i64 14) (.int .i64 (posT e l2 : Nat))
              obtain ⟨⟨q0, q1, q2, q3, q4, q5⟩, _, _⟩ := block6 HF
              refine bodyPost_ret (v := .tuple #[.slice none 0 0, .agg (rdA (.slice a ts.length cap) e j2 n2 14 (posT e l2 : Nat))]) (by simp [results, Tryd.results60, go_sem, q0, q1, q2, q3, q4, q5]) rfl ?_
              unfold RArgsPost
              rw [HP.out]
              exact ⟨⟨n2, j2, rfl⟩, put6_below has9.below (by omega) _ _ _ _ _ _⟩
            · have has9 := has8.next1 (j2 + 1)
              obtain ⟨t, r2, rfl⟩ : ∃ t r2, l2 = t :: r2 := by
                cases l2 with
                | nil => cases h44b
                | cons t r2 => exact ⟨t, r2, rfl⟩
              have hlt := (drop_cons_at hdr).1
              have hd2 : ts.drop (j2 + 1) = r2 := by rw [← List.tail_drop, hdr]; rfl
              have HAS9 := Lib.hid has9; clear has9 has8
              go_wp2_with fail
              have hwr : (j2 : Int) + 1 = ((j2 + 1 : Nat) : Int) := by omega
              refine ⟨⟨j2 + 1, n2, acc ++ [x], cells ++ [.int .i64 x.kind, strV x.name, .int .i64 x.n, .slice la x.list.length lc, .slice aa x.args.length ac], by omega, hn2, ?_, ?_, by rw [hwr]; exact HAS9.out, t :: r2, h41b, ?_, hx2⟩, ?_⟩
              · rw [List.length_append, List.length_cons, List.length_nil]
                have h1 := congrArg List.length hdr
                rw [List.length_drop] at h1
                rw [List.length_drop] at hsh
                omega
              · rw [hd2]; rw [List.length_cons] at hsh; omega
              · rw [sepT_more, if_pos h44b, hd2]; rfl
              · rw [HJ.out]
                have h1 : nextOf w.heap.size (W8.setCell ⟨w.heap.size, 2, none⟩ (.int .i64 (j2 + 1 : Nat))) = j2 + 1 := by unfold nextOf; rw [(block6 HAS9.out.hp).1.2.2.1]; simp
                rw [← hwr] at h1
                rw [h1]
                have h2 := congrArg List.length hdr
                rw [List.length_drop] at h2
                rw [List.length_drop] at hsh
                omega
          · have HP := Lib.hid (PX.inv41 hx2 h41b)
            have hlt : j2 < ts.length := by
              rcases Nat.lt_or_ge j2 ts.length with h | h
              · exact h
              · rw [List.drop_eq_nil_of_le h] at hdr; rw [← hdr] at h41b; cases h41b
            have has8 := has7.next1 (j2 + 1)
            rw [show ((j2 + 1 : Nat) : Int) = (j2 : Int) + 1 by omega] at has8
            have HAS8 := Lib.hid has8
            go_wp2_with fail
            go_region
            go_wp2_with fail
            have HF := put6 (w := W7.setCell ⟨w.heap.size, 2, none⟩ (.int .i64 ((j2 : Int) + 1))) (q := w.heap.size + 1) HAS8.out.hq (.slice a ts.length cap) (.int .i64 e) (.int .i64 ((j2 : Int) + 1)) (.int .i64 n2) (.int .i64 0) (.int .i64 0)
            obtain ⟨⟨q0, q1, q2, q3, q4, q5⟩, _, _⟩ := block6 HF
            refine bodyPost_ret (v := .tuple #[.slice (some ⟨gg, 0, none⟩) (acc.length + 1) cc, .agg (rdA (.slice a ts.length cap) e ((j2 : Int) + 1) n2 0 0)]) (by simp [results, Tryd.results60, go_sem, q0, q1, q2, q3, q4, q5]) rfl ?_
            unfold RArgsPost
            rw [HP.out]
            exact ⟨⟨_, j2 + 1, by rw [← hdr, List.tail_drop], by omega, rfl, HAS8.out.out _ _ _ _ _ _⟩, (put6_below HAS8.out.below (by omega) _ _ _ _ _ _).drew⟩
        · have H30 := Lib.hid (HI.out (d + 1) m j _ wr hjk (by omega) hm hj hrd hx1)
          have hc : (c != 0) = true := by simpa using PX.errc hx1 _ _ rfl
          clear hx1
          go_wp2_with fail
          refine H30.out.mono ?_
          rintro en w3 ⟨⟨xk, xz, n', nm, j2, rfl⟩, hb3⟩
          have has3 := HAS.out.later hb3
          clear c0 c1 c2 c3 c4 c5 f0 f1 f2 f3 f4 f5
          obtain ⟨⟨c0, c1, c2, c3, c4, c5⟩, ⟨f0, f1, f2, f3, f4, f5⟩, hp3⟩ := block6 has3.hp
          have HAS3 := Lib.hid has3; clear has3 hb3
          go_upto_region 6 with fail
          have HF4 : Hid (∀ O1 O2 W4, (w3.alloc O1).alloc O2 = W4 → AS w W4 (.slice a ts.length cap) e j m (.slice oa acc.length oc) acc cells ∧ W4.heap[w3.heap.size + 1]? = some O2) := Lib.hid (by
            rintro O1 O2 W4 rfl
            have hb := ((Below.refl w3.heap.size w3).alloc (Nat.le_refl _) O1).alloc (show w3.heap.size ≤ _ by simp) O2
            refine ⟨HAS3.out.later hb, ?_⟩
            have := heap_alloc_new (w3.alloc O1) O2; simpa using this)
          generalize hW4 : World.alloc (World.alloc w3 _) _ = W4
          obtain ⟨has4, hq4⟩ := HF4.out _ _ _ hW4
          clear hW4 HF4 c0 c1 c2 c3 c4 c5 f0 f1 f2 f3 f4 f5
          obtain ⟨⟨c0, c1, c2, c3, c4, c5⟩, ⟨f0, f1, f2, f3, f4, f5⟩, hp4⟩ := block6 has4.hp
          obtain ⟨⟨d0, d1, d2, d3, d4, d5⟩, -, -⟩ := block6 hq4
          have HAS4 := Lib.hid has4; clear has4 hq4
          go_upto_region 7 with fail
          have HF5 : Hid (∀ W5, put6w W4 w.heap.size (.slice a ts.length cap) (.int .i64 e) (.int .i64 j2) (.int .i64 n') (.int .i64 c) (.int .i64 (posT e l2 : Nat)) = W5 → W5.heap[w.heap.size]? = some (.cells (rdA (.slice a ts.length cap) e j2 n' c (posT e l2 : Nat)) 55 (0, 0)) ∧ W5.heap[w.heap.size + 1]? = some zero6 ∧ Below w.heap.size w W5) := Lib.hid (by
            rintro W5 rfl
            refine ⟨put6 HAS4.out.hp _ _ _ _ _ _, ?_, put6_below HAS4.out.below (Nat.le_refl _) _ _ _ _ _ _⟩
            rw [← HAS4.out.hq]; simp only [put6w]; rw [set_far (by omega), set_far (by omega), set_far (by omega), set_far (by omega), set_far (by omega), set_far (by omega)])
          generalize hW5 : World.setCell (World.setCell (World.setCell (World.setCell (World.setCell (World.setCell W4 _ _) _ _) _ _) _ _) _ _) _ _ = W5
          obtain ⟨hp5, hq5, hb5⟩ := HF5.out _ hW5
          clear hW5 HF5 c0 c1 c2 c3 c4 c5 f0 f1 f2 f3 f4 f5 d0 d1 d2 d3 d4 d5
          obtain ⟨⟨c0, c1, c2, c3, c4, c5⟩, ⟨f0, f1, f2, f3, f4, f5⟩, _⟩ := block6 hp5
          obtain ⟨⟨d0, d1, d2, d3, d4, d5⟩, ⟨g0, g1, g2, g3, g4, g5⟩, _⟩ := block6 hq5
          have HB5 := Lib.hid hb5; clear hb5
          go_wp2_with fail
          go_region
          go_wp2_with fail
          have HF := put6 (w := W5) (q := w.heap.size + 1) hq5 (.slice a ts.length cap) (.int .i64 e) (.int .i64 j2) (.int .i64 n') (.int .i64 c) (.int .i64 (posT e l2 : Nat))
          obtain ⟨⟨q0, q1, q2, q3, q4, q5⟩, _, _⟩ := block6 HF
          refine bodyPost_ret (v := .tuple #[.slice none 0 0, .agg (rdA (.slice a ts.length cap) e j2 n' c (posT e l2 : Nat))]) (by simp [results, Tryd.results60, go_sem, q0, q1, q2, q3, q4, q5]) rfl ?_
          exact ⟨⟨n', j2, rfl⟩, (put6_below HB5.out (by omega) _ _ _ _ _ _).drew⟩
end Go.Proofs.YtcaaadhhaanbcaaDoor
