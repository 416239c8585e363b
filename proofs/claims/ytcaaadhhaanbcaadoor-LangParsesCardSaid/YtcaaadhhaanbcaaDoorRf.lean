/- The walk of the reference's Parse. -/
import Derived.Test.YtcaaadhhaanbcaaDoorRe
namespace Go.Proofs.YtcaaadhhaanbcaaDoor
open Go.RowKit

theorem tk_kinds : ∀ (f p : Nat) (l : List UInt8) (acc ts : List Tok), tk f p l acc = .ok ts → kinds3 acc → kinds3 ts
  | _, _, [], acc, ts, h, ha => by rw [tk_nil] at h; cases h; exact ha
  | 0, _, b :: l, acc, ts, h, ha => by simp only [tk] at h; cases h; exact ha
  | f + 1, p, b :: l, acc, ts, h, ha => by
    have more : ∀ t : Tok, (t.kind = 1 ∨ t.kind = 2 ∨ t.kind = 3) → kinds3 (acc ++ [t]) := fun t ht u hu => by
      rw [List.mem_append, List.mem_singleton] at hu
      rcases hu with hu | rfl
      · exact ha u hu
      · exact ht
    rw [tk] at h
    split at h
    · exact tk_kinds f _ _ _ _ h ha
    · split at h
      · split at h
        · cases h
        · exact tk_kinds f _ _ _ _ h (more _ (.inl rfl))
      · split at h
        · split at h
          · cases h
          · rename_i t0 ht0
            exact tk_kinds f _ _ _ _ h (more _ (.inr (.inl (numTok_num ht0).1)))
        · split at h
          · exact tk_kinds f _ _ _ _ h (more _ (.inr (.inr rfl)))
          · cases h
theorem toks_kinds {l : List UInt8} {ts : List Tok} (h : toks l = .ok ts) : kinds3 ts := by
  unfold toks at h
  split at h
  · cases h
  · exact tk_kinds _ _ _ _ _ h (fun _ h => by cases h)

theorem drew2 {w0 F : World} {p B : Nat} {x : Obj} (h1 : F.heap[p]? = some x) (h3 : Below B w0 F) : F.drew.heap[p]? = some x ∧ Below B w0 F.drew := ⟨h1, h3.drew⟩

theorem f14_scan (s : ByteArray) (hs : s.size ≤ maxLen) (w : World) {c : Int} {p : Nat} (ht : toks (bts s) = .err c p) :
    Calls Tryd.prog 14 #[.string s] w (ParsePost (none, c, p) w) := by
  have h21 := f21_any s hs
  have H21 : Hid (∀ w, Calls Tryd.prog 21 #[.string s] w fun e w' => e = .returned (.tuple #[.slice none 0 0, .int .i64 c, .int .i64 p]) ∧ Below w.heap.size w w') := Lib.hid (fun w => (h21 w).mono fun e w' h => by unfold TokensPost at h; rw [ht] at h; exact h)
  have hc : (c != 0) = true := by simpa using (toks_bad ht).1
  clear h21 ht
  have HB := Lib.hid (fun O => (Below.refl w.heap.size w).alloc (Nat.le_refl _) O)
  have HN := Lib.hid (heap_alloc_new w zeroEx)
  have HS : Hid ((w.alloc zeroEx).heap.size = w.heap.size + 1) := Lib.hid (by simp)
  go_enter Tryd.func14, Tryd.ntmps14
  go_wp2_with fail
  refine (H21.out _).mono ?_
  rintro e w1 ⟨rfl, hb1⟩
  have hb := (HB.out _).trans (hb1.mono (by simp))
  have h0 := (hb1.block w.heap.size (by simp)).trans HN.out
  obtain ⟨⟨x0, x1, x2, x3, x4⟩, ⟨y0, y1, y2, y3, y4⟩, hx3⟩ := block5 h0
  have Hb := Lib.hid hb; clear hb hb1
  go_wp2_with fail
  have HF : Hid (∀ F, (((((w1.setCell ⟨w.heap.size, 0, none⟩ (.int .i64 0)).setCell ⟨w.heap.size, 1, none⟩ (.string ⟨#[]⟩)).setCell ⟨w.heap.size, 2, none⟩ (.int .i64 0)).setCell ⟨w.heap.size, 3, none⟩ (.slice none 0 0)).setCell ⟨w.heap.size, 4, none⟩ (.slice none 0 0)) = F →
      F.heap[w.heap.size]? = some zeroEx ∧ Below w.heap.size w F) := Lib.hid (by rintro F rfl; exact ⟨put5 h0 _ _ _ _ _, put5_below Hb.out (Nat.le_refl _) _ _ _ _ _⟩)
  generalize hF : World.setCell _ _ _ = F
  obtain ⟨hf0, hfb⟩ := HF.out _ hF
  clear hF HF x0 x1 x2 x3 x4 y0 y1 y2 y3 y4
  obtain ⟨⟨x0, x1, x2, x3, x4⟩, -, -⟩ := block5 hf0
  refine bodyPost_ret (v := .tuple #[.agg #[.int .i64 0, .string ⟨#[]⟩, .int .i64 0, .slice none 0 0, .slice none 0 0], .int .i64 c, .int .i64 p]) (by simp [results, Tryd.results14, go_sem, x0, x1, x2, x3, x4]) rfl ?_
  exact ⟨rfl, hfb⟩

/-- Common start behind the scan: the tokens stand in w2, the result's block is zero, expr's answer follows. -/
theorem f14_exprH {w w2 : World} {v : Value} {ts : List Tok} {r : PR} {B : Nat} (e : Nat) (he : e ≤ 65536) (hk : kinds3 ts) (h : RD w2 v ts B) (hx : PX none 1 0 ts r) (_ : w = w) :
    Calls Tryd.prog 30 #[.agg #[v, .int .i64 e, .int .i64 0, .int .i64 0, .int .i64 0, .int .i64 0], .int .i64 1] w2 (RExprPost r ts v e w2) := by
  have := f30_all (v := v) (B := B) he hk ts.length 1 0 0 r w2 (by simp) (by omega) (by omega) (by omega) h (by simpa using hx)
  exact this

set_option maxRecDepth 100000 in
set_option maxHeartbeats 16000000 in
theorem f14_err (s : ByteArray) (hs : s.size ≤ maxLen) (w : World) {ts l : List Tok} {c : Int} (ht : toks (bts s) = .ok ts) (hx : PX none 1 0 ts (.err c l)) :
    Calls Tryd.prog 14 #[.string s] w (ParsePost (none, c, posT s.size l) w) := by
  have hl := toks_len ht
  rw [bts_len] at hl
  have hk3 := toks_kinds ht
  have h21 := f21_any s hs
  have H21 : Hid (∀ w, Calls Tryd.prog 21 #[.string s] w fun e w' => ∃ v, e = .returned (.tuple #[v, .int .i64 0, .int .i64 0]) ∧ w'.ownsRow w.heap.size 40 4 v ts.length (toksCells ts) ∧ Below w.heap.size w w') := Lib.hid (fun w => (h21 w).mono fun e w' h => by unfold TokensPost at h; rw [ht] at h; obtain ⟨⟨v, h1, h2⟩, h3⟩ := h; exact ⟨v, h1, h2, h3⟩)
  have hc : (c != 0) = true := by simpa using PX.errc hx _ _ rfl
  have hc2 : (c == 0) = false := by simpa using PX.errc hx _ _ rfl
  have HX := Lib.hid hx
  have HK := Lib.hid hk3
  clear h21 ht hx hk3
  unfold maxLen at hs
  have HB := Lib.hid (fun O => (Below.refl w.heap.size w).alloc (Nat.le_refl _) O)
  have HN := Lib.hid (heap_alloc_new w zeroEx)
  go_enter Tryd.func14, Tryd.ntmps14
  go_wp2_with fail
  refine (H21.out _).mono ?_
  rintro e w2 ⟨v, rfl, ho, hb1⟩
  have hb := (HB.out _).trans (hb1.mono (by simp))
  have h0 := (hb1.block w.heap.size (by simp)).trans HN.out
  have hrd : RD w2 v ts _ := ⟨ho, by omega⟩
  obtain ⟨a, cap, rfl, hc1, hc3⟩ := hrd.form
  have H30 := f14_exprH (w := w) s.size hl.2 HK.out hrd HX.out rfl
  have Hb := Lib.hid hb; clear hb hb1 ho hrd
  have H0 := Lib.hid h0; clear h0
  go_wp2_with fail
  refine H30.mono ?_
  rintro e w3 ⟨⟨xk, xz, n', nm, j2, rfl⟩, hb3⟩
  have h03 := (hb3.block w.heap.size (Array.getElem?_eq_some_iff.1 H0.out).1).trans H0.out
  have Hb3 := Lib.hid (Hb.out.trans (hb3.mono Hb.out.size)); clear hb3
  have H03 := Lib.hid h03; clear h03
  have hws : w.heap.size < w3.heap.size := (Array.getElem?_eq_some_iff.1 H03.out).1
  go_upto_region 5 with fail
  have HF4 : Hid (∀ O1 O2 W4, (w3.alloc O1).alloc O2 = W4 → W4.heap[w.heap.size]? = some zeroEx ∧ W4.heap[w3.heap.size + 1]? = some O2 ∧ Below w.heap.size w W4) := Lib.hid (by
    rintro O1 O2 W4 rfl
    have hb := ((Below.refl w3.heap.size w3).alloc (Nat.le_refl _) O1).alloc (show w3.heap.size ≤ _ by simp) O2
    refine ⟨(hb.block _ (Array.getElem?_eq_some_iff.1 H03.out).1).trans H03.out, ?_, Hb3.out.trans (hb.mono Hb3.out.size)⟩
    have := heap_alloc_new (w3.alloc O1) O2; simpa using this)
  generalize hW4 : World.alloc (World.alloc w3 _) _ = W4
  obtain ⟨h04, hr4, hb4⟩ := HF4.out _ _ _ hW4
  clear hW4 HF4
  obtain ⟨⟨x0, x1, x2, x3, x4⟩, ⟨y0, y1, y2, y3, y4⟩, hx3⟩ := block5 h04
  obtain ⟨⟨d0, d1, d2, d3, d4, d5⟩, ⟨g0, g1, g2, g3, g4, g5⟩, hq3⟩ := block6 hr4
  have H04 := Lib.hid h04; clear h04 hr4
  have HB4 := Lib.hid hb4; clear hb4
  go_wp2_with fail
  go_region
  go_wp2_with fail
  have HF : Hid (∀ F, (put5w W4 w.heap.size (.int .i64 0) (.string ⟨#[]⟩) (.int .i64 0) (.slice none 0 0) (.slice none 0 0)).drew = F →
      F.heap[w.heap.size]? = some zeroEx ∧ Below w.heap.size w F) := Lib.hid (by
    rintro F rfl
    exact drew2 (put5 H04.out _ _ _ _ _) (put5_below HB4.out (Nat.le_refl _) _ _ _ _ _))
  generalize hF : World.drew _ = F
  obtain ⟨hf0, hfb⟩ := HF.out _ hF
  clear hF HF x0 x1 x2 x3 x4 y0 y1 y2 y3 y4
  obtain ⟨⟨x0, x1, x2, x3, x4⟩, -, -⟩ := block5 hf0
  refine bodyPost_ret (v := .tuple #[.agg #[.int .i64 0, .string ⟨#[]⟩, .int .i64 0, .slice none 0 0, .slice none 0 0], .int .i64 c, .int .i64 (posT s.size l : Nat)]) (by simp [results, Tryd.results14, go_sem, x0, x1, x2, x3, x4]) rfl ?_
  exact ⟨rfl, hfb⟩

set_option maxRecDepth 100000 in
set_option maxHeartbeats 16000000 in
theorem f14_more (s : ByteArray) (hs : s.size ≤ maxLen) (w : World) {ts l : List Tok} {x : Ex} {n : Nat} {t : Tok} (ht : toks (bts s) = .ok ts) (hx : PX none 1 0 ts (.ok [x] n (t :: l))) :
    Calls Tryd.prog 14 #[.string s] w (ParsePost (none, 14, t.pos) w) := by
  have hl := toks_len ht
  rw [bts_len] at hl
  have hk3 := toks_kinds ht
  have h21 := f21_any s hs
  have H21 : Hid (∀ w, Calls Tryd.prog 21 #[.string s] w fun e w' => ∃ v, e = .returned (.tuple #[v, .int .i64 0, .int .i64 0]) ∧ w'.ownsRow w.heap.size 40 4 v ts.length (toksCells ts) ∧ Below w.heap.size w w') := Lib.hid (fun w => (h21 w).mono fun e w' h => by unfold TokensPost at h; rw [ht] at h; obtain ⟨⟨v, h1, h2⟩, h3⟩ := h; exact ⟨v, h1, h2, h3⟩)
  have HX := Lib.hid hx
  have HK := Lib.hid hk3
  clear h21 ht hx hk3
  unfold maxLen at hs
  have HB := Lib.hid (fun O => (Below.refl w.heap.size w).alloc (Nat.le_refl _) O)
  have HN := Lib.hid (heap_alloc_new w zeroEx)
  go_enter Tryd.func14, Tryd.ntmps14
  go_wp2_with fail
  refine (H21.out _).mono ?_
  rintro e w2 ⟨v, rfl, ho, hb1⟩
  have hb := (HB.out _).trans (hb1.mono (by simp))
  have h0 := (hb1.block w.heap.size (by simp)).trans HN.out
  have hrd : RD w2 v ts _ := ⟨ho, by omega⟩
  obtain ⟨a, cap, rfl, hc1, hc3⟩ := hrd.form
  have H30 := f14_exprH (w := w) s.size hl.2 HK.out hrd HX.out rfl
  have HRD := Lib.hid hrd
  have Hb := Lib.hid hb; clear hb hb1 ho hrd
  have H0 := Lib.hid h0; clear h0
  go_wp2_with fail
  refine H30.mono ?_
  rintro e w3 ⟨⟨x', cs, j2, hxx, hdr, hj2, rfl, hxv⟩, hb3⟩
  obtain rfl := (List.cons.inj hxx).1
  have hlt := (drop_cons_at hdr).1
  obtain ⟨la, lc, aa, ac, rfl, -, -, -, -, -, -⟩ := XV_five hxv
  have h03 := (hb3.block w.heap.size (Array.getElem?_eq_some_iff.1 H0.out).1).trans H0.out
  have hrd3 := HRD.out.later hb3
  have HRD3 := Lib.hid hrd3
  have Hb3 := Lib.hid (Hb.out.trans (hb3.mono Hb.out.size)); clear hb3 hxv hxx hrd3
  have H03 := Lib.hid h03; clear h03
  have hws : w.heap.size < w3.heap.size := (Array.getElem?_eq_some_iff.1 H03.out).1
  go_upto_region 5 with fail
  have HF4 : Hid (∀ O1 O2 W4, (w3.alloc O1).alloc O2 = W4 → W4.heap[w.heap.size]? = some zeroEx ∧ W4.heap[w3.heap.size + 1]? = some O2 ∧ Below w.heap.size w W4 ∧ Below w3.heap.size w3 W4) := Lib.hid (by
    rintro O1 O2 W4 rfl
    have hb := ((Below.refl w3.heap.size w3).alloc (Nat.le_refl _) O1).alloc (show w3.heap.size ≤ _ by simp) O2
    refine ⟨(hb.block _ (Array.getElem?_eq_some_iff.1 H03.out).1).trans H03.out, ?_, Hb3.out.trans (hb.mono Hb3.out.size), hb⟩
    have := heap_alloc_new (w3.alloc O1) O2; simpa using this)
  generalize hW4 : World.alloc (World.alloc w3 _) _ = W4
  obtain ⟨h04, hr4, hb4, hb34⟩ := HF4.out _ _ _ hW4
  clear hW4 HF4
  have h31 := f31_any (i := j2) (e := s.size) n 14 (HRD3.out.later hb34)
  rw [hdr] at h31
  obtain ⟨⟨d0, d1, d2, d3, d4, d5⟩, ⟨g0, g1, g2, g3, g4, g5⟩, hq3⟩ := block6 hr4
  have H04 := Lib.hid h04; clear h04
  have HR4 := Lib.hid hr4; clear hr4
  have HB4 := Lib.hid hb4; clear hb4 hb34
  go_wp2_with fail
  refine h31.mono ?_
  rintro e W5 ⟨rfl, hb5⟩
  have h05 := (hb5.block w.heap.size (Array.getElem?_eq_some_iff.1 H04.out).1).trans H04.out
  have hr5 := (hb5.block _ (Array.getElem?_eq_some_iff.1 HR4.out).1).trans HR4.out
  have Hb5 := Lib.hid (HB4.out.trans (hb5.mono HB4.out.size)); clear hb5
  clear d0 d1 d2 d3 d4 d5 g0 g1 g2 g3 g4 g5
  obtain ⟨⟨d0, d1, d2, d3, d4, d5⟩, ⟨g0, g1, g2, g3, g4, g5⟩, hq5⟩ := block6 hr5
  have H05 := Lib.hid h05; clear h05
  have HR5 := Lib.hid hr5; clear hr5
  go_upto_region 7 with fail
  have HF6 : Hid (∀ W6, put6w W5 (w3.heap.size + 1) (.slice a ts.length cap) (.int .i64 s.size) (.int .i64 j2) (.int .i64 n) (.int .i64 14) (.int .i64 (posT s.size (t :: l) : Nat)) = W6 →
      W6.heap[w.heap.size]? = some zeroEx ∧ W6.heap[w3.heap.size + 1]? = some (.cells (rdA (.slice a ts.length cap) s.size j2 n 14 (posT s.size (t :: l) : Nat)) 55 (0, 0)) ∧ Below w.heap.size w W6) := Lib.hid (by
    rintro W6 rfl
    exact ⟨(put6_far (by omega)).trans H05.out, put6 HR5.out _ _ _ _ _ _, put6_below Hb5.out (by omega) _ _ _ _ _ _⟩)
  generalize hW6 : World.setCell (World.setCell (World.setCell (World.setCell (World.setCell (World.setCell W5 _ _) _ _) _ _) _ _) _ _) _ _ = W6
  obtain ⟨h06, hr6, hb6⟩ := HF6.out _ hW6
  clear hW6 HF6 d0 d1 d2 d3 d4 d5 g0 g1 g2 g3 g4 g5
  obtain ⟨⟨x0, x1, x2, x3, x4⟩, ⟨y0, y1, y2, y3, y4⟩, hx3⟩ := block5 h06
  obtain ⟨⟨d0, d1, d2, d3, d4, d5⟩, ⟨g0, g1, g2, g3, g4, g5⟩, hq6⟩ := block6 hr6
  have H06 := Lib.hid h06; clear h06 hr6
  have HB6 := Lib.hid hb6; clear hb6
  go_wp2_with fail
  go_region
  go_wp2_with fail
  have HF : Hid (∀ F, (put5w W6 w.heap.size (.int .i64 0) (.string ⟨#[]⟩) (.int .i64 0) (.slice none 0 0) (.slice none 0 0)).drew = F →
      F.heap[w.heap.size]? = some zeroEx ∧ Below w.heap.size w F) := Lib.hid (by
    rintro F rfl
    exact drew2 (put5 H06.out _ _ _ _ _) (put5_below HB6.out (Nat.le_refl _) _ _ _ _ _))
  generalize hF : World.drew _ = F
  obtain ⟨hf0, hfb⟩ := HF.out _ hF
  clear hF HF x0 x1 x2 x3 x4 y0 y1 y2 y3 y4
  obtain ⟨⟨x0, x1, x2, x3, x4⟩, -, -⟩ := block5 hf0
  refine bodyPost_ret (v := .tuple #[.agg #[.int .i64 0, .string ⟨#[]⟩, .int .i64 0, .slice none 0 0, .slice none 0 0], .int .i64 14, .int .i64 (posT s.size (t :: l) : Nat)]) (by simp [results, Tryd.results14, go_sem, x0, x1, x2, x3, x4]) rfl ?_
  exact ⟨rfl, hfb⟩

set_option maxRecDepth 100000 in
set_option maxHeartbeats 16000000 in
theorem f14_ok (s : ByteArray) (hs : s.size ≤ maxLen) (w : World) {ts : List Tok} {x : Ex} {n : Nat} (ht : toks (bts s) = .ok ts) (hx : PX none 1 0 ts (.ok [x] n [])) :
    Calls Tryd.prog 14 #[.string s] w (ParsePost (some x, 0, 0) w) := by
  have hl := toks_len ht
  rw [bts_len] at hl
  have hk3 := toks_kinds ht
  have h21 := f21_any s hs
  have H21 : Hid (∀ w, Calls Tryd.prog 21 #[.string s] w fun e w' => ∃ v, e = .returned (.tuple #[v, .int .i64 0, .int .i64 0]) ∧ w'.ownsRow w.heap.size 40 4 v ts.length (toksCells ts) ∧ Below w.heap.size w w') := Lib.hid (fun w => (h21 w).mono fun e w' h => by unfold TokensPost at h; rw [ht] at h; obtain ⟨⟨v, h1, h2⟩, h3⟩ := h; exact ⟨v, h1, h2, h3⟩)
  have HX := Lib.hid hx
  have HK := Lib.hid hk3
  clear h21 ht hx hk3
  unfold maxLen at hs
  have HB := Lib.hid (fun O => (Below.refl w.heap.size w).alloc (Nat.le_refl _) O)
  have HN := Lib.hid (heap_alloc_new w zeroEx)
  go_enter Tryd.func14, Tryd.ntmps14
  go_wp2_with fail
  refine (H21.out _).mono ?_
  rintro e w2 ⟨v, rfl, ho, hb1⟩
  have hb := (HB.out _).trans (hb1.mono (by simp))
  have h0 := (hb1.block w.heap.size (by simp)).trans HN.out
  have hrd : RD w2 v ts _ := ⟨ho, by omega⟩
  obtain ⟨a, cap, rfl, hc1, hc3⟩ := hrd.form
  have H30 := f14_exprH (w := w) s.size hl.2 HK.out hrd HX.out rfl
  have Hb := Lib.hid hb; clear hb hb1 ho hrd
  have H0 := Lib.hid h0; clear h0
  go_wp2_with fail
  refine H30.mono ?_
  rintro e w3 ⟨⟨x', cs, j2, hxx, hdr, hj2, rfl, hxv⟩, hb3⟩
  obtain rfl := (List.cons.inj hxx).1
  have hge := drop_nil_len hdr
  obtain ⟨la, lc, aa, ac, rfl, -, -, -, -, -, -⟩ := XV_five hxv
  have h03 := (hb3.block w.heap.size (Array.getElem?_eq_some_iff.1 H0.out).1).trans H0.out
  have hw2 : w.heap.size < w2.heap.size := (Array.getElem?_eq_some_iff.1 H0.out).1
  have hsz3 := hb3.size
  have HXV := Lib.hid hxv
  have Hb3 := Lib.hid (Hb.out.trans (hb3.mono Hb.out.size)); clear hb3 hxv hxx
  have H03 := Lib.hid h03; clear h03
  have hws : w.heap.size < w3.heap.size := (Array.getElem?_eq_some_iff.1 H03.out).1
  go_upto_region 5 with fail
  have HF4 : Hid (∀ O1 O2 W4, (w3.alloc O1).alloc O2 = W4 → W4.heap[w.heap.size]? = some zeroEx ∧ W4.heap[w3.heap.size]? = some O1 ∧ W4.heap[w3.heap.size + 1]? = some O2 ∧ Below w.heap.size w W4 ∧ Below w3.heap.size w3 W4) := Lib.hid (by
    rintro O1 O2 W4 rfl
    have hb := ((Below.refl w3.heap.size w3).alloc (Nat.le_refl _) O1).alloc (show w3.heap.size ≤ _ by simp) O2
    refine ⟨(hb.block _ (Array.getElem?_eq_some_iff.1 H03.out).1).trans H03.out, by rw [heap_alloc_old _ _ (by simp), heap_alloc_new], ?_, Hb3.out.trans (hb.mono Hb3.out.size), hb⟩
    have := heap_alloc_new (w3.alloc O1) O2; simpa using this)
  generalize hW4 : World.alloc (World.alloc w3 _) _ = W4
  obtain ⟨h04, hx4, hr4, hb4, hb34⟩ := HF4.out _ _ _ hW4
  clear hW4 HF4
  obtain ⟨⟨x0, x1, x2, x3, x4⟩, ⟨y0, y1, y2, y3, y4⟩, hx3⟩ := block5 h04
  obtain ⟨⟨z0, z1, z2, z3, z4⟩, -, -⟩ := block5 hx4
  obtain ⟨⟨d0, d1, d2, d3, d4, d5⟩, ⟨g0, g1, g2, g3, g4, g5⟩, hq3⟩ := block6 hr4
  have H04 := Lib.hid h04; clear h04 hr4 hx4
  have HB4 := Lib.hid hb4; clear hb4
  have HB34 := Lib.hid hb34; clear hb34
  go_wp2_with fail
  have HF : Hid (∀ F, (put5w W4 w.heap.size (.int .i64 x.kind) (strV x.name) (.int .i64 x.n) (.slice la x.list.length lc) (.slice aa x.args.length ac)) = F →
      F.heap[w.heap.size]? = some (.cells #[.int .i64 x.kind, strV x.name, .int .i64 x.n, .slice la x.list.length lc, .slice aa x.args.length ac] 26 (0, 0)) ∧ Below w.heap.size w F ∧ ∀ b, b ≠ w.heap.size → F.heap[b]? = W4.heap[b]?) := Lib.hid (by
    rintro F rfl
    exact ⟨put5 H04.out _ _ _ _ _, put5_below HB4.out (Nat.le_refl _) _ _ _ _ _, fun b hb => put5_far hb⟩)
  generalize hF : World.setCell _ _ _ = F
  obtain ⟨hf0, hfb, hfo⟩ := HF.out _ hF
  clear hF HF x0 x1 x2 x3 x4 y0 y1 y2 y3 y4
  obtain ⟨⟨x0, x1, x2, x3, x4⟩, -, -⟩ := block5 hf0
  refine bodyPost_ret (v := .tuple #[.agg #[.int .i64 x.kind, strV x.name, .int .i64 x.n, .slice la x.list.length lc, .slice aa x.args.length ac], .int .i64 0, .int .i64 (0 : Nat)]) (by simp [results, Tryd.results14, go_sem, x0, x1, x2, x3, x4]) rfl ?_
  refine ⟨⟨_, rfl, XV_mono (fun b o u hg hu => ?_) HXV.out⟩, hfb⟩
  have hg' : w2.heap.size ≤ b := hg
  refine ⟨by omega, ?_⟩
  rw [← hu]
  exact World.cell?_of_block ((hfo b (by omega)).trans (HB34.out.block b (World.block_lt_of_cell? w3 _ hu)))

theorem f14_any (s : ByteArray) (hs : s.size ≤ maxLen) (w : World) {res : Option Ex × Int × Nat} (h : PT (bts s) res) : Calls Tryd.prog 14 #[.string s] w (ParsePost res w) := by
  cases h with
  | scan h => exact f14_scan s hs w h
  | err h hx =>
    have := f14_err s hs w h hx
    rw [bts_len]; exact this
  | more h hx => exact f14_more s hs w h hx
  | ok h hx => exact f14_ok s hs w h hx
end Go.Proofs.YtcaaadhhaanbcaaDoor
