/- The law LangSizes. -/
import Derived.Test.YtcaaadhhaanbcaaDoorWt
import Derived.Test.YtcaaadhhaanbcaaDoorAv
namespace Go.Proofs.YtcaaadhhaanbcaaDoor
open Go.RowKit

set_option maxRecDepth 100000 in
set_option maxHeartbeats 8000000 in
theorem f10_any (x : Ex) (cs : Array Value) (w : World) (hx : XV (Lt w.heap.size) w x cs) (ht : Tab w.heap.size w) :
    Calls Tryd.prog 10 #[.agg cs] w fun e w' => e = .returned (.bool true) ∧ Below w.heap.size w w' := by
  have hnot : ∀ (x : Bool) (w : World), (Op.unary .not (.bool x)).run Tryd.prog w = .ok (.bool (!x)) w := fun _ _ => rfl
  have HX := Lib.hid hx
  obtain ⟨la, lc, a, cap, rfl, -, -, hlc, hlc2, hcap, hcap2⟩ := XV_five hx
  clear hx
  have HT := Lib.hid ht; clear ht
  have HC : Hid (∀ w', Below (w.heap.size + 1) (w.alloc (Obj.cells #[Value.int IntKind.i64 x.kind, strV x.name, Value.int IntKind.i64 x.n, Value.slice la x.list.length lc, Value.slice a x.args.length cap] 26)) w' →
      (w'.cell? ⟨w.heap.size, 0, none⟩ = some (.int .i64 x.kind) ∧ w'.cell? ⟨w.heap.size, 1, none⟩ = some (strV x.name) ∧ w'.cell? ⟨w.heap.size, 2, none⟩ = some (.int .i64 x.n) ∧
      w'.cell? ⟨w.heap.size, 3, none⟩ = some (.slice la x.list.length lc) ∧ w'.cell? ⟨w.heap.size, 4, none⟩ = some (.slice a x.args.length cap)) ∧ Below w.heap.size w w') := Lib.hid (fun w' hb => by
    refine ⟨⟨?_, ?_, ?_, ?_, ?_⟩, ((Below.refl _ _).alloc (Nat.le_refl _) _).trans (hb.mono (by omega))⟩ <;> (rw [hb.cell (by simp), Lib.cell_of_heap (heap_alloc_new w _)]; rfl))
  have HB0 := Lib.hid (Below.refl (w.heap.size + 1) (w.alloc (Obj.cells #[Value.int IntKind.i64 x.kind, strV x.name, Value.int IntKind.i64 x.n, Value.slice la x.list.length lc, Value.slice a x.args.length cap] 26)))
  have HS1 : (w.alloc (Obj.cells #[Value.int IntKind.i64 x.kind, strV x.name, Value.int IntKind.i64 x.n, Value.slice la x.list.length lc, Value.slice a x.args.length cap] 26)).heap.size = w.heap.size + 1 := by simp
  go_enter Tryd.func10, Tryd.ntmps10
  go_wp2_with fail
  generalize w.alloc _ = W at *
  refine (f12_any W (tab_on HT.out (HC.out _ HB0.out).2 (by omega))).mono ?_
  rintro e w1 ⟨rfl, hb1⟩
  rw [HS1] at hb1
  obtain ⟨⟨c0, c1, c2, c3, c4⟩, hw1⟩ := HC.out _ hb1
  have HB1 := Lib.hid hb1; clear hb1
  have HW1 := Lib.hid hw1; clear hw1
  have H16 := f16_any x _ w1 (XV_later HX.out HW1.out HW1.out.size)
  go_wp2_with fail
  refine H16.mono ?_
  rintro e w2 ⟨b, rfl, hb2, hnn⟩
  have hb2' := HB1.out.trans (hb2.mono (by have := HB1.out.size; omega))
  clear c0 c1 c2 c3 c4
  obtain ⟨⟨c0, c1, c2, c3, c4⟩, hw2⟩ := HC.out _ hb2'
  have HB2 := Lib.hid hb2'; clear hb2' hb2
  have HW2 := Lib.hid hw2; clear hw2
  cases b
  · go_wp2_with fail
    go_ret
    exact ⟨rfl, HW2.out⟩
  · have hn := hnn rfl
    have H22 := Lib.hid (fun W (hb : Below w.heap.size w W) => f22_any _ x _ W (Nat.le_refl _) (by omega) (XV_later HX.out hb hb.size))
    have H23 := Lib.hid (fun W (hb : Below w.heap.size w W) => f23_any _ x _ W (Nat.le_refl _) (by omega) (XV_later HX.out hb hb.size))
    have hsz2 : w.heap.size + 1 ≤ w2.heap.size := by have := HB2.out.size; omega
    have HS : Hid (∀ w', Below w2.heap.size w2 w' → (w'.cell? ⟨w.heap.size, 0, none⟩ = some (.int .i64 x.kind) ∧ w'.cell? ⟨w.heap.size, 1, none⟩ = some (strV x.name) ∧ w'.cell? ⟨w.heap.size, 2, none⟩ = some (.int .i64 x.n) ∧
      w'.cell? ⟨w.heap.size, 3, none⟩ = some (.slice la x.list.length lc) ∧ w'.cell? ⟨w.heap.size, 4, none⟩ = some (.slice a x.args.length cap))) := Lib.hid (fun w' hb => (HC.out _ (HB2.out.trans (hb.mono hsz2))).1)
    have HL : Hid (∀ w', Below w2.heap.size w2 w' → Below w.heap.size w w') := Lib.hid (fun w' hb => HW2.out.trans (hb.mono HW2.out.size))
    have HR := Lib.hid (Below.refl w2.heap.size w2)
    go_wp2_with fail
    go_region_held3 (fun w' => w'.cell? ⟨w.heap.size, 0, none⟩ = some (.int .i64 x.kind) ∧ w'.cell? ⟨w.heap.size, 1, none⟩ = some (strV x.name) ∧ w'.cell? ⟨w.heap.size, 2, none⟩ = some (.int .i64 x.n) ∧
      w'.cell? ⟨w.heap.size, 3, none⟩ = some (.slice la x.list.length lc) ∧ w'.cell? ⟨w.heap.size, 4, none⟩ = some (.slice a x.args.length cap))
      (first
        | exact HS.out _ hb4
        | exact HS.out _ hb3
        | exact HS.out _ HR.out.drew
        | go_keep)
      ((first
        | (go_at_call 22; refine (H22.out _ (HL.out _ HR.out.drew)).mono ?_; rintro e w3 ⟨rfl, hb3⟩; replace hb3 := HR.out.drew.trans (hb3.mono (by simp)))
        | (go_at_call 23; refine (H23.out _ (HL.out _ hb3)).mono ?_; rintro e w4 ⟨rfl, hb4⟩; replace hb4 := hb3.trans (hb4.mono hb3.size))
        | (go_at_call 23; refine (H23.out _ (HL.out _ HR.out.drew)).mono ?_; rintro e w3 ⟨rfl, hb3⟩; replace hb3 := HR.out.drew.trans (hb3.mono (by simp)))
        | (go_at_call 22; refine (H22.out _ (HL.out _ hb3)).mono ?_; rintro e w4 ⟨rfl, hb4⟩; replace hb4 := hb3.trans (hb4.mono hb3.size))))
    go_wp2_with fail
    go_ret
    exact ⟨rfl, HL.out _ hb4⟩
end Go.Proofs.YtcaaadhhaanbcaaDoor
