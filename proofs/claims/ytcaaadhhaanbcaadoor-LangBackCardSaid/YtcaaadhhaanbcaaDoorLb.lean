/- The law LangBack. -/
import Derived.Test.YtcaaadhhaanbcaaDoorWt
import Derived.Test.YtcaaadhhaanbcaaDoorCk
import Derived.Test.YtcaaadhhaanbcaaDoorBq
import Derived.Test.YtcaaadhhaanbcaaDoorAv
namespace Go.Proofs.YtcaaadhhaanbcaaDoor
open Go.RowKit

set_option maxRecDepth 100000 in
set_option maxHeartbeats 8000000 in
theorem f6_any (x : Ex) (cs : Array Value) (w : World) (hx : XV (Lt w.heap.size) w x cs) (ht : Tab w.heap.size w) :
    Calls Tryd.prog 6 #[.agg cs] w fun e w' => e = .returned (.bool true) ∧ Below w.heap.size w w' := by
  have hnot : ∀ (x : Bool) (w : World), (Op.unary .not (.bool x)).run Tryd.prog w = .ok (.bool (!x)) w := fun _ _ => rfl
  have HX := Lib.hid hx
  obtain ⟨la, lc, a, cap, rfl, -, -, hlc, hlc2, hcap, hcap2⟩ := XV_five hx
  clear hx
  have HT := Lib.hid ht; clear ht
  have HC : Hid (∀ w', Below (w.heap.size + 1) (w.alloc (Obj.cells #[Value.int IntKind.i64 x.kind, strV x.name, Value.int IntKind.i64 x.n, Value.slice la x.list.length lc, Value.slice a x.args.length cap] 26)) w' →
      (w'.cell? ⟨w.heap.size, 0, none⟩ = some (.int .i64 x.kind) ∧ w'.cell? ⟨w.heap.size, 1, none⟩ = some (strV x.name) ∧ w'.cell? ⟨w.heap.size, 2, none⟩ = some (.int .i64 x.n) ∧
      w'.cell? ⟨w.heap.size, 3, none⟩ = some (.slice la x.list.length lc) ∧ w'.cell? ⟨w.heap.size, 4, none⟩ = some (.slice a x.args.length cap)) ∧ Below w.heap.size w w') := Lib.hid (fun w' hb => by
    refine ⟨⟨?_, ?_, ?_, ?_, ?_⟩, ((Below.refl _ _).alloc (Nat.le_refl _) _).trans (hb.mono (by omega))⟩ <;> (rw [hb.cell (by simp), Lib.cell_of_heap (heap_alloc_new w _)]; rfl))
  have HB0 := Lib.hid (Below.refl (w.heap.size + 1) (w.alloc (Obj.cells #[Value.int IntKind.i64 x.kind, strV x.name, Value.int IntKind.i64 x.n, Value.slice la x.list.length lc, Value.slice a x.args.length cap] 26)))
  have HS1 : (w.alloc (Obj.cells #[Value.int IntKind.i64 x.kind, strV x.name, Value.int IntKind.i64 x.n, Value.slice la x.list.length lc, Value.slice a x.args.length cap] 26)).heap.size = w.heap.size + 1 := by simp
  go_enter Tryd.func6, Tryd.ntmps6
  go_wp2_with fail
  generalize w.alloc _ = W at *
  refine (f12_any W (tab_on HT.out (HC.out _ HB0.out).2 (by omega))).mono ?_
  rintro e w1 ⟨rfl, hb1⟩
  rw [HS1] at hb1
  obtain ⟨⟨c0, c1, c2, c3, c4⟩, hw1⟩ := HC.out _ hb1
  have HB1 := Lib.hid hb1; clear hb1
  have HW1 := Lib.hid hw1; clear hw1
  have H16 := f16_any x _ w1 (XV_later HX.out HW1.out HW1.out.size)
  go_wp2_with fail
  refine H16.mono ?_
  rintro e w2 ⟨b, rfl, hb2, hnn⟩
  have hb2' := HB1.out.trans (hb2.mono (by have := HB1.out.size; omega))
  clear c0 c1 c2 c3 c4
  obtain ⟨⟨c0, c1, c2, c3, c4⟩, hw2⟩ := HC.out _ hb2'
  have HB2 := Lib.hid hb2'; clear hb2' hb2
  have HW2 := Lib.hid hw2; clear hw2
  cases b
  · go_wp2_with fail
    go_ret
    exact ⟨rfl, HW2.out⟩
  · have hn := hnn rfl
    have hsz2 : w.heap.size + 1 ≤ w2.heap.size := by have := HB2.out.size; omega
    have H18 := f18_any x _ w2 (by omega) (XV_later HX.out HW2.out HW2.out.size)
    go_wp2_with fail
    refine H18.mono ?_
    rintro e w3 ⟨rfl, hb3⟩
    have hb3' := HB2.out.trans (hb3.mono hsz2)
    clear c0 c1 c2 c3 c4
    obtain ⟨⟨c0, c1, c2, c3, c4⟩, hw3⟩ := HC.out _ hb3'
    have hsz3 : w.heap.size + 1 ≤ w3.heap.size := by have := hb3'.size; omega
    have HB3 := Lib.hid hb3'; clear hb3 hb3'
    have HW3 := Lib.hid hw3; clear hw3
    by_cases hz : checkE x = 0
    · have hlen : (wtx x).length ≤ 65536 := (checkE_zero hz).2.2.2.2
      have H19 := f19_any x _ w3 (by omega) (XV_later HX.out HW3.out HW3.out.size) (tab_on HT.out HW3.out HW3.out.size)
      have hfm : fmtL x = wtx x := by unfold fmtL; rw [if_pos hz]
      rw [hfm] at H19
      have H13 := Lib.hid (fun w => f13_any ⟨(wtx x).toArray⟩ (by rw [size_mk]; unfold maxLen; omega) w (PT_back hz))
      rw [hz]
      go_wp2_with fail
      refine H19.mono ?_
      rintro e w4 ⟨rfl, hb4⟩
      have hb4' := HB3.out.trans (hb4.mono hsz3)
      have hsz4 : w.heap.size + 1 ≤ w4.heap.size := by have := hb4'.size; omega
      have HB4 := Lib.hid hb4'; clear hb4 hb4'
      go_wp2_with fail
      refine (H13.out _).mono ?_
      rintro e w5 ⟨⟨cs, rfl, hx⟩, hb5⟩
      have hx1 := XV_here hx
      clear hx
      obtain ⟨la2, lc2, aa2, ac2, rfl, -, -, h1, h2, h3, h4⟩ := XV_five hx1
      have HX1 := Lib.hid hx1; clear hx1
      have hb5' := HB4.out.trans (hb5.mono hsz4)
      clear c0 c1 c2 c3 c4
      obtain ⟨⟨c0, c1, c2, c3, c4⟩, hw5⟩ := HC.out _ hb5'
      have hsz5 : w.heap.size < w5.heap.size := by have := hb5'.size; omega
      clear hb5 hb5'
      have HW5 := Lib.hid hw5; clear hw5
      have H15 := Lib.hid (fun O => f15_any _ x _ _ (w5.alloc O) (Nat.le_refl _) (XV_later HX.out (HW5.out.trans ((Below.refl w.heap.size w5).alloc (Nat.le_of_lt hsz5) O)) (by simp; omega)) (XV_later HX1.out ((Below.refl _ _).alloc (Nat.le_refl _) O) (by simp)))
      have HW6 := Lib.hid (fun O => HW5.out.trans ((Below.refl w.heap.size w5).alloc (Nat.le_of_lt hsz5) O))
      go_wp2_with fail
      refine (H15.out _).mono ?_
      rintro e w6 ⟨rfl, hb6⟩
      have HW7 := Lib.hid ((HW6.out _).trans (hb6.mono (by simp; omega))); clear hb6
      go_wp2_with fail
      go_ret
      exact ⟨rfl, HW7.out⟩
    · have hz' : (checkE x == 0) = false := by simpa using hz
      go_wp2_with fail
      go_ret
      exact ⟨rfl, HW3.out⟩
end Go.Proofs.YtcaaadhhaanbcaaDoor
