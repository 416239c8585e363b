/- The law LangParses. -/
import Derived.Test.YtcaaadhhaanbcaaDoorRf
import Derived.Test.YtcaaadhhaanbcaaDoorLo
namespace Go.Proofs.YtcaaadhhaanbcaaDoor
open Go.RowKit

set_option maxRecDepth 100000 in
set_option maxHeartbeats 16000000 in
theorem f3_any (s : ByteArray) (hs : s.size ≤ maxLen) (w : World) (ht : Tab w.heap.size w) :
    Calls Tryd.prog 3 #[.string s] w fun e w' => e = .returned (.bool true) ∧ Below w.heap.size w w' := by
  have hnot : ∀ (x : Bool) (w : World), (Op.unary .not (.bool x)).run Tryd.prog w = .ok (.bool (!x)) w := fun _ _ => rfl
  have H12 := Lib.hid (f12_any w ht)
  clear ht
  obtain ⟨⟨ox, c, p⟩, hpt⟩ := PT.total (bts s)
  have H13 := Lib.hid (fun w => f13_any s hs w hpt)
  have H14 := Lib.hid (fun w => f14_any s hs w hpt)
  clear hpt
  cases ox with
  | none =>
    go_enter Tryd.func3, Tryd.ntmps3
    go_wp2_with fail
    refine H12.out.mono ?_
    rintro e w1 ⟨rfl, hb1⟩
    have HW1 := Lib.hid hb1; clear hb1
    go_wp2_with fail
    refine (H13.out _).mono ?_
    rintro e w3 ⟨rfl, hb3⟩
    have HW3 := Lib.hid (HW1.out.trans (hb3.mono HW1.out.size)); clear hb3
    have HC : Hid (∀ w', Below (w3.heap.size + 1) (w3.alloc (Obj.cells #[Value.int IntKind.i64 0, Value.string { data := #[] }, Value.int IntKind.i64 0, Value.slice none 0 0, Value.slice none 0 0] 26)) w' →
      (w'.cell? ⟨w3.heap.size, 0, none⟩ = some (.int .i64 0) ∧ w'.cell? ⟨w3.heap.size, 1, none⟩ = some (Value.string { data := #[] }) ∧ w'.cell? ⟨w3.heap.size, 2, none⟩ = some (.int .i64 0) ∧
      w'.cell? ⟨w3.heap.size, 3, none⟩ = some (.slice none 0 0) ∧ w'.cell? ⟨w3.heap.size, 4, none⟩ = some (.slice none 0 0)) ∧ Below w.heap.size w w') := Lib.hid (fun w' hb => by
      refine ⟨⟨?_, ?_, ?_, ?_, ?_⟩, HW3.out.trans ((((Below.refl _ _).alloc (Nat.le_refl _) _).trans (hb.mono (by omega))).mono HW3.out.size)⟩ <;> (rw [hb.cell (by simp), Lib.cell_of_heap (heap_alloc_new w3 _)]; rfl))
    have HSz : Hid ((w3.alloc (Obj.cells #[Value.int IntKind.i64 0, Value.string { data := #[] }, Value.int IntKind.i64 0, Value.slice none 0 0, Value.slice none 0 0] 26)).heap.size = w3.heap.size + 1) := Lib.hid (by simp)
    go_wp2_with fail
    generalize w3.alloc _ = W at *
    refine (H14.out _).mono ?_
    rintro e w4 ⟨rfl, hb4⟩
    rw [HSz.out] at hb4
    obtain ⟨⟨c0, c1, c2, c3, c4⟩, hw4⟩ := HC.out _ hb4
    have hlt4 : w3.heap.size < w4.heap.size := World.block_lt_of_cell? w4 _ c0
    have HW4 := Lib.hid hw4; clear hw4 hb4
    have HW6 := Lib.hid (fun O => HW4.out.alloc HW4.out.size O)
    go_wp2_with fail
    refine (same_zero _).mono ?_
    rintro e w5 ⟨rfl, hb5⟩
    have HW7 := Lib.hid ((HW6.out _).trans (hb5.mono (HW6.out _).size)); clear hb5
    go_wp2_with fail
    go_ret
    exact ⟨rfl, HW7.out⟩
  | some x =>
    go_enter Tryd.func3, Tryd.ntmps3
    go_wp2_with fail
    refine H12.out.mono ?_
    rintro e w1 ⟨rfl, hb1⟩
    have HW1 := Lib.hid hb1; clear hb1
    go_wp2_with fail
    refine (H13.out _).mono ?_
    rintro e w3 ⟨⟨cs, rfl, hx⟩, hb3⟩
    have HW3 := Lib.hid (HW1.out.trans (hb3.mono HW1.out.size)); clear hb3
    have hx1 := XV_here hx
    clear hx
    obtain ⟨la, lc, aa, ac, rfl, -, -, h1, h2, h3, h4⟩ := XV_five hx1
    have HX := Lib.hid hx1; clear hx1
    have HC : Hid (∀ w', Below (w3.heap.size + 1) (w3.alloc (Obj.cells #[Value.int IntKind.i64 x.kind, strV x.name, Value.int IntKind.i64 x.n, Value.slice la x.list.length lc, Value.slice aa x.args.length ac] 26)) w' →
      (w'.cell? ⟨w3.heap.size, 0, none⟩ = some (.int .i64 x.kind) ∧ w'.cell? ⟨w3.heap.size, 1, none⟩ = some (strV x.name) ∧ w'.cell? ⟨w3.heap.size, 2, none⟩ = some (.int .i64 x.n) ∧
      w'.cell? ⟨w3.heap.size, 3, none⟩ = some (.slice la x.list.length lc) ∧ w'.cell? ⟨w3.heap.size, 4, none⟩ = some (.slice aa x.args.length ac)) ∧ Below w3.heap.size w3 w') := Lib.hid (fun w' hb => by
      refine ⟨⟨?_, ?_, ?_, ?_, ?_⟩, ((Below.refl _ _).alloc (Nat.le_refl _) _).trans (hb.mono (by omega))⟩ <;> (rw [hb.cell (by simp), Lib.cell_of_heap (heap_alloc_new w3 _)]; rfl))
    have HSz : Hid ((w3.alloc (Obj.cells #[Value.int IntKind.i64 x.kind, strV x.name, Value.int IntKind.i64 x.n, Value.slice la x.list.length lc, Value.slice aa x.args.length ac] 26)).heap.size = w3.heap.size + 1) := Lib.hid (by simp)
    go_wp2_with fail
    generalize w3.alloc _ = W at *
    refine (H14.out _).mono ?_
    rintro e w4 ⟨⟨cs, rfl, hx⟩, hb4⟩
    have hx1 := XV_here hx
    clear hx
    obtain ⟨lb, ld, ab, ad, rfl, -, -, g1, g2, g3, g4⟩ := XV_five hx1
    have HY := Lib.hid hx1; clear hx1
    rw [HSz.out] at hb4
    obtain ⟨⟨c0, c1, c2, c3, c4⟩, hw4⟩ := HC.out _ hb4
    have hlt4 : w3.heap.size < w4.heap.size := World.block_lt_of_cell? w4 _ c0
    have HW4 := Lib.hid hw4; clear hw4 hb4
    have HW6 := Lib.hid (fun O => HW4.out.alloc HW4.out.size O)
    have H15 := Lib.hid (fun O => f15_any _ x _ _ (w4.alloc O) (Nat.le_refl _) (XV_later HX.out (HW6.out O) (HW6.out O).size) (XV_later HY.out ((Below.refl _ _).alloc (Nat.le_refl _) O) (by simp)))
    go_wp2_with fail
    refine (H15.out _).mono ?_
    rintro e w5 ⟨rfl, hb5⟩
    have HW7 := Lib.hid (HW3.out.trans (((HW6.out _).trans (hb5.mono (HW6.out _).size)).mono HW3.out.size)); clear hb5
    go_wp2_with fail
    go_ret
    exact ⟨rfl, HW7.out⟩
end Go.Proofs.YtcaaadhhaanbcaaDoor
