/- The walk of the reference's Check. -/
import Derived.Test.YtcaaadhhaanbcaaDoorWx2
import Derived.Test.YtcaaadhhaanbcaaDoorWv
namespace Go.Proofs.YtcaaadhhaanbcaaDoor
open Go.RowKit

set_option maxRecDepth 100000 in
set_option maxHeartbeats 8000000 in
theorem f18_any (x : Ex) (cs : Array Value) (w : World) (hbig : nodes x ≤ 4611686018427387904) (hx : XV (Lt w.heap.size) w x cs) :
    Calls Tryd.prog 18 #[.agg cs] w fun e w' => e = .returned (.int .i64 (checkE x)) ∧ Below w.heap.size w w' := by
  have hnot : ∀ (x : Bool) (w : World), (Op.unary .not (.bool x)).run Tryd.prog w = .ok (.bool (!x)) w := fun _ _ => rfl
  have H37 := Lib.hid (fun W (hb : Below w.heap.size w W) => f37_any _ x cs W (Nat.le_refl _) (XV_later hx hb hb.size))
  have H38 := Lib.hid (fun W (hb : Below w.heap.size w W) => f38_any _ x cs W (Nat.le_refl _) (XV_later hx hb hb.size))
  have H39 := Lib.hid (fun W (hb : Below w.heap.size w W) => f39_any _ x cs W (Nat.le_refl _) hbig (XV_later hx hb hb.size))
  have H23 := Lib.hid (fun W (hb : Below w.heap.size w W) => f23_any _ x cs W (Nat.le_refl _) hbig (XV_later hx hb hb.size))
  have H20 := Lib.hid (fun hf hl hn W (hb : Below w.heap.size w W) => f20_any _ x cs W (Nat.le_refl _) hn hf hl (XV_later hx hb hb.size))
  obtain ⟨la, lc, a, cap, rfl, -, -, hlc, hlc2, hcap, hcap2⟩ := XV_five hx
  clear hx
  have HC : Hid (∀ w', Below (w.heap.size + 1) (w.alloc (Obj.cells #[Value.int IntKind.i64 x.kind, strV x.name, Value.int IntKind.i64 x.n, Value.slice la x.list.length lc, Value.slice a x.args.length cap] 26)) w' →
      (w'.cell? ⟨w.heap.size, 0, none⟩ = some (.int .i64 x.kind) ∧ w'.cell? ⟨w.heap.size, 1, none⟩ = some (strV x.name) ∧ w'.cell? ⟨w.heap.size, 2, none⟩ = some (.int .i64 x.n) ∧
      w'.cell? ⟨w.heap.size, 3, none⟩ = some (.slice la x.list.length lc) ∧ w'.cell? ⟨w.heap.size, 4, none⟩ = some (.slice a x.args.length cap)) ∧ Below w.heap.size w w') := Lib.hid (fun w' hb => by
    refine ⟨⟨?_, ?_, ?_, ?_, ?_⟩, ((Below.refl _ _).alloc (Nat.le_refl _) _).trans (hb.mono (by omega))⟩ <;> (rw [hb.cell (by simp), Lib.cell_of_heap (heap_alloc_new w _)]; rfl))
  have HB0 := Lib.hid (Below.refl (w.heap.size + 1) (w.alloc (Obj.cells #[Value.int IntKind.i64 x.kind, strV x.name, Value.int IntKind.i64 x.n, Value.slice la x.list.length lc, Value.slice a x.args.length cap] 26)))
  have HS1 : (w.alloc (Obj.cells #[Value.int IntKind.i64 x.kind, strV x.name, Value.int IntKind.i64 x.n, Value.slice la x.list.length lc, Value.slice a x.args.length cap] 26)).heap.size = w.heap.size + 1 := by simp
  go_enter Tryd.func18, Tryd.ntmps18
  go_wp2_with fail
  generalize w.alloc _ = W at *
  refine (H37.out W (HC.out _ HB0.out).2).mono ?_
  rintro e w1 ⟨rfl, hb1⟩
  rw [HS1] at hb1
  obtain ⟨⟨c0, c1, c2, c3, c4⟩, hw1⟩ := HC.out _ hb1
  have HB1 := Lib.hid hb1; clear hb1
  cases hf : formB x
  · go_wp2_with fail
    go_ret
    exact ⟨by rw [checkE_form hf]; rfl, hw1⟩
  · have H38' := H38.out w1 hw1
    have HW1 := Lib.hid hw1; clear hw1
    go_wp2_with fail
    refine H38'.mono ?_
    rintro e w2 ⟨rfl, hb2⟩
    have hb2' := HB1.out.trans (hb2.mono (by have := HB1.out.size; omega))
    obtain ⟨⟨d0, d1, d2, d3, d4⟩, hw2⟩ := HC.out _ hb2'
    have H23' := H23.out w2 hw2
    have HB2 := Lib.hid hb2'; clear hb2 hb2'
    have HW2 := Lib.hid hw2; clear hw2
    clear c0 c1 c2 c3 c4
    cases hl : listsB x
    · go_wp2_with fail
      go_ret
      exact ⟨by rw [checkE_lists hf hl]; rfl, HW2.out⟩
    · go_wp2_with fail
      refine H23'.mono ?_
      rintro e w3 ⟨rfl, hb3⟩
      have hb3' := HB2.out.trans (hb3.mono (by have := HB2.out.size; omega))
      obtain ⟨⟨e0, e1, e2, e3, e4⟩, hw3⟩ := HC.out _ hb3'
      have H39' := H39.out w3 hw3
      have HB3 := Lib.hid hb3'; clear hb3 hb3'
      have HW3 := Lib.hid hw3; clear hw3
      clear d0 d1 d2 d3 d4
      by_cases hn : (1024 : Int) < (nodes x : Int)
      · go_wp2_with fail
        go_ret
        exact ⟨by rw [checkE_deep hf (.inr (by omega))]; rfl, HW3.out⟩
      · go_wp2_with fail
        refine H39'.mono ?_
        rintro e w4 ⟨rfl, hb4⟩
        have hb4' := HB3.out.trans (hb4.mono (by have := HB3.out.size; omega))
        obtain ⟨⟨g0, g1, g2, g3, g4⟩, hw4⟩ := HC.out _ hb4'
        have H20' := H20.out hf hl (by omega) w4 hw4
        have HB4 := Lib.hid hb4'; clear hb4 hb4'
        have HW4 := Lib.hid hw4; clear hw4
        clear e0 e1 e2 e3 e4
        by_cases hd : (32 : Int) < (depthX x : Int)
        · go_wp2_with fail
          go_ret
          exact ⟨by rw [checkE_deep hf (.inl (by omega))]; rfl, HW4.out⟩
        · go_wp2_with fail
          refine H20'.mono ?_
          rintro e w5 ⟨rfl, hb5⟩
          have HW5 := Lib.hid (HW4.out.trans (hb5.mono HW4.out.size)); clear hb5
          by_cases hbg : (65536 : Int) < ((wtx x).length : Int)
          · go_wp2_with fail
            go_ret
            exact ⟨by rw [checkE_long hf (by omega)]; rfl, HW5.out⟩
          · go_wp2_with fail
            go_ret
            exact ⟨by rw [checkE_ok hf hl (by omega) (by omega) (by omega)]; rfl, HW5.out⟩
end Go.Proofs.YtcaaadhhaanbcaaDoor
