/- The walks of Check and Format. -/
import Derived.Test.YtcaaadhhaanbcaaDoorWr
namespace Go.Proofs.YtcaaadhhaanbcaaDoor
open Go.RowKit

def checkE (x : Ex) : Int :=
  if formB x = false then 5
  else if listsB x = false ∨ 32 < depthX x ∨ 1024 < nodes x then 8
  else if 65536 < (wtx x).length then 8
  else 0

theorem checkE_form {x : Ex} (h : formB x = false) : checkE x = 5 := by simp [checkE, h]
theorem checkE_lists {x : Ex} (hf : formB x = true) (h : listsB x = false) : checkE x = 8 := by simp [checkE, hf, h]
theorem checkE_deep {x : Ex} (hf : formB x = true) (h : 32 < depthX x ∨ 1024 < nodes x) : checkE x = 8 := by
  unfold checkE; rw [if_neg (by simp [hf]), if_pos (.inr h)]
theorem checkE_long {x : Ex} (hf : formB x = true) (h : 65536 < (wtx x).length) : checkE x = 8 := by
  unfold checkE; rw [if_neg (by simp [hf])]
  by_cases hc : listsB x = false ∨ 32 < depthX x ∨ 1024 < nodes x
  · rw [if_pos hc]
  · rw [if_neg hc, if_pos h]
theorem checkE_ok {x : Ex} (hf : formB x = true) (hl : listsB x = true) (hd : depthX x ≤ 32) (hn : nodes x ≤ 1024) (h : (wtx x).length ≤ 65536) : checkE x = 0 := by
  unfold checkE; rw [if_neg (by simp [hf]), if_neg (by simp [hl]; omega), if_neg (by omega)]
theorem checkE_zero {x : Ex} (h : checkE x = 0) : formB x = true ∧ listsB x = true ∧ depthX x ≤ 32 ∧ nodes x ≤ 1024 ∧ (wtx x).length ≤ 65536 := by
  unfold checkE at h
  split at h
  · cases h
  · rename_i hf
    split at h
    · cases h
    · rename_i hn
      split at h
      · cases h
      · refine ⟨by simpa using hf, ?_, ?_, ?_, by omega⟩
        · cases hl : listsB x with
          | true => rfl
          | false => exact absurd (.inl hl) hn
        · exact Nat.le_of_not_lt (fun h => hn (.inr (.inl h)))
        · exact Nat.le_of_not_lt (fun h => hn (.inr (.inr h)))

theorem isNum_word {z : Int} (h : isNum z = true) : 0 ≤ z ∧ z ≤ 9999999 := by
  simpa [isNum] using h
theorem isNam_len {l : List UInt8} (h : isNam l = true) : l.length ≤ 16 := by
  cases l with
  | nil => simp
  | cons c r => simp only [isNam, Bool.and_eq_true, decide_eq_true_eq] at h; exact h.1.1

theorem nodeB_parts {x : Ex} (h : nodeB x = true) : (∀ z ∈ x.list, isNum z = true) ∧ (isNum x.n = true) ∧ x.name.length ≤ 16 := by
  simp only [nodeB, Bool.and_eq_true, List.all_eq_true] at h
  refine ⟨h.1, ?_⟩
  have h0 : isNum 0 = true := by decide
  have h2 := h.2
  split at h2
  · simp only [Bool.and_eq_true, List.isEmpty_iff] at h2; exact ⟨h2.1.1.1, by rw [h2.1.1.2]; simp⟩
  · split at h2
    · simp only [Bool.and_eq_true, List.isEmpty_iff, beq_iff_eq] at h2; exact ⟨by rw [h2.1.1]; exact h0, by rw [h2.1.2]; simp⟩
    · split at h2
      · simp only [Bool.and_eq_true, List.isEmpty_iff, beq_iff_eq] at h2; exact ⟨by rw [h2.1.1]; exact h0, isNam_len h2.1.2⟩
      · split at h2
        · simp only [Bool.and_eq_true, List.isEmpty_iff, beq_iff_eq] at h2; exact ⟨by rw [h2.1.1.1]; exact h0, isNam_len h2.1.1.2⟩
        · cases h2

mutual
theorem fine_of_form : ∀ x : Ex, formB x = true → fine x
  | .mk k nm n zs ag, h => by
    rw [formB_eq, Bool.and_eq_true] at h
    obtain ⟨h1, h2, _⟩ := nodeB_parts h.1
    simp only [fine]
    refine ⟨⟨?_, ?_⟩, fun z hz => ⟨?_, ?_⟩, fineL_of_form ag h.2⟩
    · have := (isNum_word h2).1; simp only [Ex.n] at this; omega
    · have := (isNum_word h2).2; simp only [Ex.n] at this; omega
    · have := (isNum_word (h1 z hz)).1; omega
    · have := (isNum_word (h1 z hz)).2; omega
theorem fineL_of_form : ∀ xs : List Ex, formBL xs = true → fineL xs
  | [], _ => by simp [fineL]
  | x :: xs, h => by
    simp only [formBL, Bool.and_eq_true] at h
    simp only [fineL]; exact ⟨fine_of_form x h.1, fineL_of_form xs h.2⟩
end

mutual
theorem wtx_bound : ∀ x : Ex, formB x = true → listsB x = true → (wtx x).length + 2 ≤ 100000 * nodes x
  | .mk k nm n zs ag, hf, hl => by
    have hfi := fine_of_form _ hf
    rw [formB_eq, Bool.and_eq_true] at hf
    rw [listsB_eq, Bool.and_eq_true, decide_eq_true_eq] at hl
    obtain ⟨h1, h2, h3⟩ := nodeB_parts hf.1
    obtain ⟨f1, f2, f3⟩ := (fine_iff _).1 hfi
    have hb := wtxL_bound ag 0 hf.2 hl.2
    have hi := Lib.itoa_length_le n f1.1 f1.2
    have hj := joinInts_len zs f2 zs.length [91]
    simp only [Ex.name, Ex.list] at h3 hl
    simp only [wtx, nodes]
    simp only [List.length_cons, List.length_nil] at hj
    have hz : 23 * zs.length ≤ 23 * 4096 := Nat.mul_le_mul_left _ hl.1
    split
    · omega
    · split
      · simp only [List.length_append, List.length_cons, List.length_nil]; omega
      · split
        · omega
        · split
          · simp only [List.length_append, List.length_cons, List.length_nil]; omega
          · simp; omega
theorem wtxL_bound : ∀ (xs : List Ex) (i : Nat), formBL xs = true → listsL xs = true → (wtxL xs i).length ≤ 100000 * nodesL xs
  | [], _, _, _ => by simp [wtxL]
  | x :: xs, i, hf, hl => by
    simp only [formBL, Bool.and_eq_true] at hf
    simp only [listsL, Bool.and_eq_true] at hl
    have h1 := wtx_bound x hf.1 hl.1
    have h2 := wtxL_bound xs (i + 1) hf.2 hl.2
    simp only [wtxL, nodesL]
    split <;> simp only [List.length_append, List.length_cons, List.length_nil] <;> omega
end

theorem bs_fresh (w : World) : BS w.heap.size w.heap.size w (w.alloc (.cells #[.pointer none, .slice none 0 0] 65)) [] :=
  ⟨Lib.IsBuilderF.of (Lib.fresh_isBuilder 65 5 w), (Below.refl _ _).alloc (Nat.le_refl _) _, kept_below ((Below.refl _ _).alloc (Nat.le_refl _) _), Nat.le_refl _⟩
theorem tab_on {B B' : Nat} {w w' : World} (h : Tab B w) (hb : Below B w w') (hB : B ≤ B') : Tab B' w' := fun v hv => h v (hb.trans (hv.mono hB))

/-- The writer into a fresh builder. -/
theorem write_fresh {w W : World} {x : Ex} {cs : Array Value} (hx : XV (Lt w.heap.size) w x cs) (hf : formB x = true) (hl : listsB x = true) (hn : nodes x ≤ 1024) (ht : Tab w.heap.size w) (hb : Below w.heap.size w W) :
    Calls Tryd.prog 35 #[.pointer (some ⟨W.heap.size, 0, none⟩), .agg cs] (W.alloc (.cells #[.pointer none, .slice none 0 0] 65)) fun e w' => e = .returned (.tuple #[]) ∧ BS W.heap.size W.heap.size W w' (wr x []) := by
  have hwb := wtx_bound x hf hl
  exact f35_any _ x cs W _ W.heap.size W.heap.size [] (Nat.le_refl _) (fine_of_form x hf) (XV_later hx hb hb.size) (tab_on ht hb hb.size) (bs_fresh W) (by simp) (by simp; omega)

set_option maxRecDepth 100000 in
set_option maxHeartbeats 4000000 in
theorem f17_any (x : Ex) (cs : Array Value) (w : World) (hbig : nodes x ≤ 4611686018427387904) (hx : XV (Lt w.heap.size) w x cs) (ht : Tab w.heap.size w) :
    Calls Tryd.prog 17 #[.agg cs] w fun e w' => e = .returned (.int .i64 (checkE x)) ∧ Below w.heap.size w w' := by
  have hnot : ∀ (x : Bool) (w : World), (Op.unary .not (.bool x)).run Tryd.prog w = .ok (.bool (!x)) w := fun _ _ => rfl
  have H33 := Lib.hid (fun W (hb : Below w.heap.size w W) => f33_any _ x cs W (Nat.le_refl _) (XV_later hx hb hb.size))
  have H34 := Lib.hid (fun W (hb : Below w.heap.size w W) => f34_any _ x cs W (Nat.le_refl _) hbig (XV_later hx hb hb.size))
  have H22 := Lib.hid (fun W (hb : Below w.heap.size w W) => f22_any _ x cs W (Nat.le_refl _) hbig (XV_later hx hb hb.size))
  have H35 := Lib.hid (fun hf hl hn W (hb : Below w.heap.size w W) => write_fresh (W := W) hx hf hl hn ht hb)
  obtain ⟨la, lc, a, cap, rfl, -, -, hlc, hlc2, hcap, hcap2⟩ := XV_five hx
  clear hx ht
  have HC : Hid (∀ w', Below (w.heap.size + 1) (w.alloc (Obj.cells #[Value.int IntKind.i64 x.kind, strV x.name, Value.int IntKind.i64 x.n, Value.slice la x.list.length lc, Value.slice a x.args.length cap] 26)) w' →
      (w'.cell? ⟨w.heap.size, 0, none⟩ = some (.int .i64 x.kind) ∧ w'.cell? ⟨w.heap.size, 1, none⟩ = some (strV x.name) ∧ w'.cell? ⟨w.heap.size, 2, none⟩ = some (.int .i64 x.n) ∧
      w'.cell? ⟨w.heap.size, 3, none⟩ = some (.slice la x.list.length lc) ∧ w'.cell? ⟨w.heap.size, 4, none⟩ = some (.slice a x.args.length cap)) ∧ Below w.heap.size w w') := Lib.hid (fun w' hb => by
    refine ⟨⟨?_, ?_, ?_, ?_, ?_⟩, ((Below.refl _ _).alloc (Nat.le_refl _) _).trans (hb.mono (by omega))⟩ <;> (rw [hb.cell (by simp), Lib.cell_of_heap (heap_alloc_new w _)]; rfl))
  have HB0 := Lib.hid (Below.refl (w.heap.size + 1) (w.alloc (Obj.cells #[Value.int IntKind.i64 x.kind, strV x.name, Value.int IntKind.i64 x.n, Value.slice la x.list.length lc, Value.slice a x.args.length cap] 26)))
  go_enter Tryd.func17, Tryd.ntmps17
  go_wp2_with fail
  have HS1 : (w.alloc (Obj.cells #[Value.int IntKind.i64 x.kind, strV x.name, Value.int IntKind.i64 x.n, Value.slice la x.list.length lc, Value.slice a x.args.length cap] 26)).heap.size = w.heap.size + 1 := by simp
  generalize w.alloc _ = W at *
  refine (H33.out W (HC.out _ HB0.out).2).mono ?_
  rintro e w1 ⟨rfl, hb1⟩
  rw [HS1] at hb1
  obtain ⟨⟨c0, c1, c2, c3, c4⟩, hw1⟩ := HC.out _ hb1
  have HB1 := Lib.hid hb1; clear hb1
  cases hf : formB x
  · go_wp2_with fail
    go_ret
    exact ⟨by rw [checkE_form hf]; rfl, hw1⟩
  · have H34' := H34.out w1 hw1
    have HW1 := Lib.hid hw1; clear hw1
    go_wp2_with fail
    refine H34'.mono ?_
    rintro e w2 ⟨rfl, hb2⟩
    have hb2' := HB1.out.trans (hb2.mono (by have := HB1.out.size; omega))
    obtain ⟨⟨d0, d1, d2, d3, d4⟩, hw2⟩ := HC.out _ hb2'
    have H22' := H22.out w2 hw2
    have HB2 := Lib.hid hb2'; clear hb2 hb2'
    have HW2 := Lib.hid hw2; clear hw2
    clear c0 c1 c2 c3 c4
    have hdn := depthX_le x
    cases hl : listsB x
    · go_wp2_with fail
      go_ret
      exact ⟨by rw [checkE_lists hf hl]; rfl, HW2.out⟩
    · by_cases hd : (32 : Int) < (depthX x : Int)
      · go_wp2_with fail
        go_ret
        exact ⟨by rw [checkE_deep hf (.inl (by omega))]; rfl, HW2.out⟩
      · go_wp2_with fail
        refine H22'.mono ?_
        rintro e w3 ⟨rfl, hb3⟩
        have hb3' := HB2.out.trans (hb3.mono (by have := HB2.out.size; omega))
        obtain ⟨⟨e0, e1, e2, e3, e4⟩, hw3⟩ := HC.out _ hb3'
        have HB3 := Lib.hid hb3'; clear hb3 hb3'
        have HW3 := Lib.hid hw3; clear hw3
        clear d0 d1 d2 d3 d4
        by_cases hn : (1024 : Int) < (nodes x : Int)
        · go_wp2_with fail
          go_ret
          exact ⟨by rw [checkE_deep hf (.inr (by omega))]; rfl, HW3.out⟩
        · have H35' := H35.out hf hl (by omega) w3 HW3.out
          have hlt3 : w.heap.size < w3.heap.size := by have := HB3.out.size; omega
          go_wp2_with fail
          refine H35'.mono ?_
          rintro e w4 ⟨rfl, hb4⟩
          have h36 := bs_len hb4
          go_wp2_with fail
          refine h36.mono ?_
          rintro e w5 ⟨rfl, rfl⟩
          have HW4 : Hid (Below w.heap.size w w4) := Lib.hid (HW3.out.trans (hb4.below.mono HW3.out.size))
          have Hb4 := Lib.hid hb4; clear hb4
          have hsh := wr_short x []
          have hlg := wr_long x []
          simp only [List.length_nil, Nat.zero_add, List.nil_append] at hsh hlg
          by_cases hbg : (65536 : Int) < ((wr x []).length : Int)
          · have hk : checkE x = 8 := by
              rcases Nat.lt_or_ge 65536 (wtx x).length with h | h
              · exact checkE_long hf h
              · rw [hsh h] at hbg; omega
            go_wp2_with fail
            go_ret
            exact ⟨by rw [hk]; rfl, HW4.out⟩
          · have hk : checkE x = 0 := checkE_ok hf hl (by omega) (by omega) (Nat.le_of_not_lt (fun h => absurd (hlg h) (by omega)))
            go_wp2_with fail
            go_ret
            exact ⟨by rw [hk]; rfl, HW4.out⟩

def fmtL (x : Ex) : List UInt8 := if checkE x = 0 then wtx x else []

set_option maxRecDepth 100000 in
set_option maxHeartbeats 4000000 in
theorem f19_any (x : Ex) (cs : Array Value) (w : World) (hbig : nodes x ≤ 4611686018427387904) (hx : XV (Lt w.heap.size) w x cs) (ht : Tab w.heap.size w) :
    Calls Tryd.prog 19 #[.agg cs] w fun e w' => e = .returned (strV (fmtL x)) ∧ Below w.heap.size w w' := by
  have H17 := Lib.hid (fun W (hb : Below w.heap.size w W) => f17_any x cs W hbig (XV_later hx hb hb.size) (tab_on ht hb hb.size))
  have H35 := Lib.hid (fun hf hl hn W (hb : Below w.heap.size w W) => write_fresh (W := W) hx hf hl hn ht hb)
  obtain ⟨la, lc, a, cap, rfl, -, -, hlc, hlc2, hcap, hcap2⟩ := XV_five hx
  clear hx ht
  have HC : Hid (∀ w', Below (w.heap.size + 1) (w.alloc (Obj.cells #[Value.int IntKind.i64 x.kind, strV x.name, Value.int IntKind.i64 x.n, Value.slice la x.list.length lc, Value.slice a x.args.length cap] 26)) w' →
      (w'.cell? ⟨w.heap.size, 0, none⟩ = some (.int .i64 x.kind) ∧ w'.cell? ⟨w.heap.size, 1, none⟩ = some (strV x.name) ∧ w'.cell? ⟨w.heap.size, 2, none⟩ = some (.int .i64 x.n) ∧
      w'.cell? ⟨w.heap.size, 3, none⟩ = some (.slice la x.list.length lc) ∧ w'.cell? ⟨w.heap.size, 4, none⟩ = some (.slice a x.args.length cap)) ∧ Below w.heap.size w w') := Lib.hid (fun w' hb => by
    refine ⟨⟨?_, ?_, ?_, ?_, ?_⟩, ((Below.refl _ _).alloc (Nat.le_refl _) _).trans (hb.mono (by omega))⟩ <;> (rw [hb.cell (by simp), Lib.cell_of_heap (heap_alloc_new w _)]; rfl))
  have HB0 := Lib.hid (Below.refl (w.heap.size + 1) (w.alloc (Obj.cells #[Value.int IntKind.i64 x.kind, strV x.name, Value.int IntKind.i64 x.n, Value.slice la x.list.length lc, Value.slice a x.args.length cap] 26)))
  go_enter Tryd.func19, Tryd.ntmps19
  go_wp2_with fail
  have HS1 : (w.alloc (Obj.cells #[Value.int IntKind.i64 x.kind, strV x.name, Value.int IntKind.i64 x.n, Value.slice la x.list.length lc, Value.slice a x.args.length cap] 26)).heap.size = w.heap.size + 1 := by simp
  generalize w.alloc _ = W at *
  refine (H17.out W (HC.out _ HB0.out).2).mono ?_
  rintro e w1 ⟨rfl, hb1⟩
  rw [HS1] at hb1
  obtain ⟨⟨c0, c1, c2, c3, c4⟩, hw1⟩ := HC.out _ hb1
  have HB1 := Lib.hid hb1; clear hb1
  have HW1 := Lib.hid hw1; clear hw1
  by_cases hz : checkE x = 0
  · obtain ⟨hf, hl, hd, hn, hlen⟩ := checkE_zero hz
    have H35' := H35.out hf hl hn w1 HW1.out
    have hlt1 : w.heap.size < w1.heap.size := by have := HB1.out.size; omega
    have hsh := wr_short x [] (by simpa using hlen)
    rw [List.nil_append] at hsh
    rw [hsh] at H35'
    rw [hz]
    clear hf hl hd hn hlen
    go_wp2_with fail
    refine H35'.mono ?_
    rintro e w4 ⟨rfl, hb4⟩
    have h40 := Tryd.Builder_String_any_f w1.heap.size w1.heap.size (wtx x) w4 hb4.bld hb4.bw
    go_wp2_with fail
    refine h40.mono ?_
    rintro e w5 ⟨rfl, _, hb5⟩
    go_wp2_with fail
    go_ret
    refine ⟨by unfold fmtL; rw [if_pos hz]; rfl, HW1.out.trans ((hb4.below.trans hb5).mono HW1.out.size)⟩
  · have hz' : (checkE x == 0) = false := by simpa using hz
    go_wp2_with fail
    go_ret
    exact ⟨by unfold fmtL; rw [if_neg hz]; rfl, HW1.out⟩
end Go.Proofs.YtcaaadhhaanbcaaDoor
