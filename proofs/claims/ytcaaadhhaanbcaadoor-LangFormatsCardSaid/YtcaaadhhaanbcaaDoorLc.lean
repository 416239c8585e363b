/- The laws LangChecks and LangFormats. -/
import Derived.Test.YtcaaadhhaanbcaaDoorWt
import Derived.Test.YtcaaadhhaanbcaaDoorCk
import Derived.Test.YtcaaadhhaanbcaaDoorAv
namespace Go.Proofs.YtcaaadhhaanbcaaDoor
open Go.RowKit

set_option maxRecDepth 100000 in
set_option maxHeartbeats 8000000 in
theorem f4_any (x : Ex) (cs : Array Value) (w : World) (hx : XV (Lt w.heap.size) w x cs) (ht : Tab w.heap.size w) :
    Calls Tryd.prog 4 #[.agg cs] w fun e w' => e = .returned (.bool true) ∧ Below w.heap.size w w' := by
  have hnot : ∀ (x : Bool) (w : World), (Op.unary .not (.bool x)).run Tryd.prog w = .ok (.bool (!x)) w := fun _ _ => rfl
  have HX := Lib.hid hx
  obtain ⟨la, lc, a, cap, rfl, -, -, hlc, hlc2, hcap, hcap2⟩ := XV_five hx
  clear hx
  have HT := Lib.hid ht; clear ht
  have HC : Hid (∀ w', Below (w.heap.size + 1) (w.alloc (Obj.cells #[Value.int IntKind.i64 x.kind, strV x.name, Value.int IntKind.i64 x.n, Value.slice la x.list.length lc, Value.slice a x.args.length cap] 26)) w' →
      (w'.cell? ⟨w.heap.size, 0, none⟩ = some (.int .i64 x.kind) ∧ w'.cell? ⟨w.heap.size, 1, none⟩ = some (strV x.name) ∧ w'.cell? ⟨w.heap.size, 2, none⟩ = some (.int .i64 x.n) ∧
      w'.cell? ⟨w.heap.size, 3, none⟩ = some (.slice la x.list.length lc) ∧ w'.cell? ⟨w.heap.size, 4, none⟩ = some (.slice a x.args.length cap)) ∧ Below w.heap.size w w') := Lib.hid (fun w' hb => by
    refine ⟨⟨?_, ?_, ?_, ?_, ?_⟩, ((Below.refl _ _).alloc (Nat.le_refl _) _).trans (hb.mono (by omega))⟩ <;> (rw [hb.cell (by simp), Lib.cell_of_heap (heap_alloc_new w _)]; rfl))
  have HB0 := Lib.hid (Below.refl (w.heap.size + 1) (w.alloc (Obj.cells #[Value.int IntKind.i64 x.kind, strV x.name, Value.int IntKind.i64 x.n, Value.slice la x.list.length lc, Value.slice a x.args.length cap] 26)))
  have HS1 : (w.alloc (Obj.cells #[Value.int IntKind.i64 x.kind, strV x.name, Value.int IntKind.i64 x.n, Value.slice la x.list.length lc, Value.slice a x.args.length cap] 26)).heap.size = w.heap.size + 1 := by simp
  go_enter Tryd.func4, Tryd.ntmps4
  go_wp2_with fail
  generalize w.alloc _ = W at *
  refine (f12_any W (tab_on HT.out (HC.out _ HB0.out).2 (by omega))).mono ?_
  rintro e w1 ⟨rfl, hb1⟩
  rw [HS1] at hb1
  obtain ⟨⟨c0, c1, c2, c3, c4⟩, hw1⟩ := HC.out _ hb1
  have HB1 := Lib.hid hb1; clear hb1
  have HW1 := Lib.hid hw1; clear hw1
  have H16 := f16_any x _ w1 (XV_later HX.out HW1.out HW1.out.size)
  go_wp2_with fail
  refine H16.mono ?_
  rintro e w2 ⟨b, rfl, hb2, hnn⟩
  have hb2' := HB1.out.trans (hb2.mono (by have := HB1.out.size; omega))
  clear c0 c1 c2 c3 c4
  obtain ⟨⟨c0, c1, c2, c3, c4⟩, hw2⟩ := HC.out _ hb2'
  have HB2 := Lib.hid hb2'; clear hb2' hb2
  have HW2 := Lib.hid hw2; clear hw2
  cases b
  · go_wp2_with fail
    go_ret
    exact ⟨rfl, HW2.out⟩
  · have hn := hnn rfl
    have H22 := Lib.hid (fun W (hb : Below w.heap.size w W) => f17_any x _ W (by omega) (XV_later HX.out hb hb.size) (tab_on HT.out hb hb.size))
    have H23 := Lib.hid (fun W (hb : Below w.heap.size w W) => f18_any x _ W (by omega) (XV_later HX.out hb hb.size))
    have hsz2 : w.heap.size + 1 ≤ w2.heap.size := by have := HB2.out.size; omega
    have HS : Hid (∀ w', Below w2.heap.size w2 w' → (w'.cell? ⟨w.heap.size, 0, none⟩ = some (.int .i64 x.kind) ∧ w'.cell? ⟨w.heap.size, 1, none⟩ = some (strV x.name) ∧ w'.cell? ⟨w.heap.size, 2, none⟩ = some (.int .i64 x.n) ∧
      w'.cell? ⟨w.heap.size, 3, none⟩ = some (.slice la x.list.length lc) ∧ w'.cell? ⟨w.heap.size, 4, none⟩ = some (.slice a x.args.length cap))) := Lib.hid (fun w' hb => (HC.out _ (HB2.out.trans (hb.mono hsz2))).1)
    have HL : Hid (∀ w', Below w2.heap.size w2 w' → Below w.heap.size w w') := Lib.hid (fun w' hb => HW2.out.trans (hb.mono HW2.out.size))
    have HR := Lib.hid (Below.refl w2.heap.size w2)
    go_wp2_with fail
    go_region_held3 (fun w' => w'.cell? ⟨w.heap.size, 0, none⟩ = some (.int .i64 x.kind) ∧ w'.cell? ⟨w.heap.size, 1, none⟩ = some (strV x.name) ∧ w'.cell? ⟨w.heap.size, 2, none⟩ = some (.int .i64 x.n) ∧
      w'.cell? ⟨w.heap.size, 3, none⟩ = some (.slice la x.list.length lc) ∧ w'.cell? ⟨w.heap.size, 4, none⟩ = some (.slice a x.args.length cap))
      (first
        | exact HS.out _ hb4
        | exact HS.out _ hb3
        | exact HS.out _ HR.out.drew
        | go_keep)
      ((first
        | (go_at_call 17; refine (H22.out _ (HL.out _ HR.out.drew)).mono ?_; rintro e w3 ⟨rfl, hb3⟩; replace hb3 := HR.out.drew.trans (hb3.mono (by simp)))
        | (go_at_call 18; refine (H23.out _ (HL.out _ hb3)).mono ?_; rintro e w4 ⟨rfl, hb4⟩; replace hb4 := hb3.trans (hb4.mono hb3.size))
        | (go_at_call 18; refine (H23.out _ (HL.out _ HR.out.drew)).mono ?_; rintro e w3 ⟨rfl, hb3⟩; replace hb3 := HR.out.drew.trans (hb3.mono (by simp)))
        | (go_at_call 17; refine (H22.out _ (HL.out _ hb3)).mono ?_; rintro e w4 ⟨rfl, hb4⟩; replace hb4 := hb3.trans (hb4.mono hb3.size))))
    go_wp2_with fail
    go_ret
    exact ⟨rfl, HL.out _ hb4⟩
set_option maxRecDepth 100000 in
set_option maxHeartbeats 8000000 in
theorem f5_any (x : Ex) (cs : Array Value) (w : World) (hx : XV (Lt w.heap.size) w x cs) (ht : Tab w.heap.size w) :
    Calls Tryd.prog 5 #[.agg cs] w fun e w' => e = .returned (.bool true) ∧ Below w.heap.size w w' := by
  have hnot : ∀ (x : Bool) (w : World), (Op.unary .not (.bool x)).run Tryd.prog w = .ok (.bool (!x)) w := fun _ _ => rfl
  have HX := Lib.hid hx
  obtain ⟨la, lc, a, cap, rfl, -, -, hlc, hlc2, hcap, hcap2⟩ := XV_five hx
  clear hx
  have HT := Lib.hid ht; clear ht
  have HC : Hid (∀ w', Below (w.heap.size + 1) (w.alloc (Obj.cells #[Value.int IntKind.i64 x.kind, strV x.name, Value.int IntKind.i64 x.n, Value.slice la x.list.length lc, Value.slice a x.args.length cap] 26)) w' →
      (w'.cell? ⟨w.heap.size, 0, none⟩ = some (.int .i64 x.kind) ∧ w'.cell? ⟨w.heap.size, 1, none⟩ = some (strV x.name) ∧ w'.cell? ⟨w.heap.size, 2, none⟩ = some (.int .i64 x.n) ∧
      w'.cell? ⟨w.heap.size, 3, none⟩ = some (.slice la x.list.length lc) ∧ w'.cell? ⟨w.heap.size, 4, none⟩ = some (.slice a x.args.length cap)) ∧ Below w.heap.size w w') := Lib.hid (fun w' hb => by
    refine ⟨⟨?_, ?_, ?_, ?_, ?_⟩, ((Below.refl _ _).alloc (Nat.le_refl _) _).trans (hb.mono (by omega))⟩ <;> (rw [hb.cell (by simp), Lib.cell_of_heap (heap_alloc_new w _)]; rfl))
  have HB0 := Lib.hid (Below.refl (w.heap.size + 1) (w.alloc (Obj.cells #[Value.int IntKind.i64 x.kind, strV x.name, Value.int IntKind.i64 x.n, Value.slice la x.list.length lc, Value.slice a x.args.length cap] 26)))
  have HS1 : (w.alloc (Obj.cells #[Value.int IntKind.i64 x.kind, strV x.name, Value.int IntKind.i64 x.n, Value.slice la x.list.length lc, Value.slice a x.args.length cap] 26)).heap.size = w.heap.size + 1 := by simp
  go_enter Tryd.func5, Tryd.ntmps5
  go_wp2_with fail
  generalize w.alloc _ = W at *
  refine (f12_any W (tab_on HT.out (HC.out _ HB0.out).2 (by omega))).mono ?_
  rintro e w1 ⟨rfl, hb1⟩
  rw [HS1] at hb1
  obtain ⟨⟨c0, c1, c2, c3, c4⟩, hw1⟩ := HC.out _ hb1
  have HB1 := Lib.hid hb1; clear hb1
  have HW1 := Lib.hid hw1; clear hw1
  have H16 := f16_any x _ w1 (XV_later HX.out HW1.out HW1.out.size)
  go_wp2_with fail
  refine H16.mono ?_
  rintro e w2 ⟨b, rfl, hb2, hnn⟩
  have hb2' := HB1.out.trans (hb2.mono (by have := HB1.out.size; omega))
  clear c0 c1 c2 c3 c4
  obtain ⟨⟨c0, c1, c2, c3, c4⟩, hw2⟩ := HC.out _ hb2'
  have HB2 := Lib.hid hb2'; clear hb2' hb2
  have HW2 := Lib.hid hw2; clear hw2
  cases b
  · go_wp2_with fail
    go_ret
    exact ⟨rfl, HW2.out⟩
  · have hn := hnn rfl
    have hsz2 : w.heap.size + 1 ≤ w2.heap.size := by have := HB2.out.size; omega
    have H19 := f19_any x _ w2 (by omega) (XV_later HX.out HW2.out HW2.out.size) (tab_on HT.out HW2.out HW2.out.size)
    go_wp2_with fail
    refine H19.mono ?_
    rintro e w3 ⟨rfl, hb3⟩
    have hb3' := HB2.out.trans (hb3.mono hsz2)
    clear c0 c1 c2 c3 c4
    obtain ⟨⟨c0, c1, c2, c3, c4⟩, hw3⟩ := HC.out _ hb3'
    have HB3 := Lib.hid hb3'; clear hb3 hb3'
    have HW3 := Lib.hid hw3; clear hw3
    have H18 := f18_any x _ w3 (by omega) (XV_later HX.out HW3.out HW3.out.size)
    go_wp2_with fail
    refine H18.mono ?_
    rintro e w4 ⟨rfl, hb4⟩
    have hsz3 : w.heap.size + 1 ≤ w3.heap.size := by have := HB3.out.size; omega
    have hb4' := HB3.out.trans (hb4.mono hsz3)
    clear c0 c1 c2 c3 c4
    obtain ⟨⟨c0, c1, c2, c3, c4⟩, hw4⟩ := HC.out _ hb4'
    have HW4 := Lib.hid hw4; clear hw4 hb4 hb4'
    by_cases hz : checkE x = 0
    · obtain ⟨hf, hl, hd, hn2, hlen⟩ := checkE_zero hz
      have H20 := f20_any _ x _ w4 (Nat.le_refl _) hn2 hf hl (XV_later HX.out HW4.out HW4.out.size)
      have hfm : fmtL x = wtx x := by unfold fmtL; rw [if_pos hz]
      rw [hfm, hz]
      clear hf hl hd hn2 hlen hfm
      go_wp2_with fail
      refine H20.mono ?_
      rintro e w5 ⟨rfl, hb5⟩
      have HW5 := Lib.hid (HW4.out.trans (hb5.mono HW4.out.size)); clear hb5
      go_wp2_with fail
      go_ret
      exact ⟨rfl, HW5.out⟩
    · have hfm : fmtL x = [] := by unfold fmtL; rw [if_neg hz]
      have hz' : (checkE x == 0) = false := by simpa using hz
      rw [hfm]
      clear hfm
      go_wp2_with fail
      go_ret
      exact ⟨rfl, HW4.out⟩
end Go.Proofs.YtcaaadhhaanbcaaDoor
