/- The law LangAgain. -/
import Derived.Test.YtcaaadhhaanbcaaDoorCk
import Derived.Test.YtcaaadhhaanbcaaDoorBp
import Derived.Test.YtcaaadhhaanbcaaDoorAv
import Derived.Test.YtcaaadhhaanbcaaDoorSm
namespace Go.Proofs.YtcaaadhhaanbcaaDoor
open Go.RowKit

theorem checkE_good {x : Ex} (hf : formB x = true) (hl : listsB x = true) (hd : depthX x ≤ 32) (hn : nodes x ≤ 1024) (h : checkE x ≠ 0) : checkE x = 8 ∧ 65536 < (wtx x).length := by
  unfold checkE at h ⊢
  rw [if_neg (by simp [hf]), if_neg (by simp [hl]; omega)] at h ⊢
  split at h
  · rename_i hb; rw [if_pos hb]; exact ⟨rfl, hb⟩
  · exact absurd rfl h

set_option maxRecDepth 100000 in
set_option maxHeartbeats 8000000 in
theorem f7_any (s : ByteArray) (hs : s.size ≤ maxLen) (w : World) (ht : Tab w.heap.size w) :
    Calls Tryd.prog 7 #[.string s] w fun e w' => e = .returned (.bool true) ∧ Below w.heap.size w w' := by
  have hnot : ∀ (x : Bool) (w : World), (Op.unary .not (.bool x)).run Tryd.prog w = .ok (.bool (!x)) w := fun _ _ => rfl
  have H12 := Lib.hid (f12_any w ht)
  have HT := Lib.hid ht; clear ht
  obtain ⟨⟨ox, c, p⟩, hpt⟩ := PT.total (bts s)
  have H13 := Lib.hid (fun w => f13_any s hs w hpt)
  cases ox with
  | none =>
    obtain ⟨hc, -, -⟩ := PT_bad hpt
    have hc' : (c == 0) = false := by simpa using hc
    clear hpt
    go_enter Tryd.func7, Tryd.ntmps7
    go_wp2_with fail
    refine H12.out.mono ?_
    rintro e w1 ⟨rfl, hb1⟩
    have HW1 := Lib.hid hb1; clear hb1
    go_wp2_with fail
    refine (H13.out _).mono ?_
    rintro e w2 ⟨rfl, hb2⟩
    have HW2 := Lib.hid (HW1.out.trans (hb2.mono HW1.out.size)); clear hb2
    have HW3 := Lib.hid (fun O => HW2.out.alloc HW2.out.size O)
    go_wp2_with fail
    go_ret
    exact ⟨rfl, HW3.out _⟩
  | some x =>
    obtain ⟨rfl, rfl, hf, hl, hd, hn⟩ := PT_good hpt
    clear hpt
    have HF := Lib.hid hf
    have HL := Lib.hid hl
    go_enter Tryd.func7, Tryd.ntmps7
    go_wp2_with fail
    refine H12.out.mono ?_
    rintro e w1 ⟨rfl, hb1⟩
    have HW1 := Lib.hid hb1; clear hb1
    go_wp2_with fail
    refine (H13.out _).mono ?_
    rintro e w2 ⟨⟨cs, rfl, hx⟩, hb2⟩
    have HW2 := Lib.hid (HW1.out.trans (hb2.mono HW1.out.size)); clear hb2
    have hx1 := XV_here hx
    clear hx
    obtain ⟨la, lc, aa, ac, rfl, -, -, h1, h2, h3, h4⟩ := XV_five hx1
    have HX := Lib.hid hx1; clear hx1
    have HC : Hid (∀ w', Below (w2.heap.size + 1) (w2.alloc (Obj.cells #[Value.int IntKind.i64 x.kind, strV x.name, Value.int IntKind.i64 x.n, Value.slice la x.list.length lc, Value.slice aa x.args.length ac] 26)) w' →
      (w'.cell? ⟨w2.heap.size, 0, none⟩ = some (.int .i64 x.kind) ∧ w'.cell? ⟨w2.heap.size, 1, none⟩ = some (strV x.name) ∧ w'.cell? ⟨w2.heap.size, 2, none⟩ = some (.int .i64 x.n) ∧
      w'.cell? ⟨w2.heap.size, 3, none⟩ = some (.slice la x.list.length lc) ∧ w'.cell? ⟨w2.heap.size, 4, none⟩ = some (.slice aa x.args.length ac)) ∧ Below w2.heap.size w2 w') := Lib.hid (fun w' hb => by
      refine ⟨⟨?_, ?_, ?_, ?_, ?_⟩, ((Below.refl _ _).alloc (Nat.le_refl _) _).trans (hb.mono (by omega))⟩ <;> (rw [hb.cell (by simp), Lib.cell_of_heap (heap_alloc_new w2 _)]; rfl))
    have HB0 := Lib.hid (Below.refl (w2.heap.size + 1) (w2.alloc (Obj.cells #[Value.int IntKind.i64 x.kind, strV x.name, Value.int IntKind.i64 x.n, Value.slice la x.list.length lc, Value.slice aa x.args.length ac] 26)))
    have HS1 : (w2.alloc (Obj.cells #[Value.int IntKind.i64 x.kind, strV x.name, Value.int IntKind.i64 x.n, Value.slice la x.list.length lc, Value.slice aa x.args.length ac] 26)).heap.size = w2.heap.size + 1 := by simp
    have HG : Hid (∀ w', Below w2.heap.size w2 w' → Below w.heap.size w w' ∧ Tab w'.heap.size w') := Lib.hid (fun w' hb => by
      have hbb := HW2.out.trans (hb.mono HW2.out.size)
      exact ⟨hbb, tab_on HT.out hbb hbb.size⟩)
    have H17 := Lib.hid (fun W (hb : Below w2.heap.size w2 W) => f17_any x _ W (by omega) (XV_later HX.out hb hb.size) (HG.out _ hb).2)
    go_wp2_with fail
    generalize w2.alloc _ = W at *
    refine (H17.out W (HC.out _ HB0.out).2).mono ?_
    rintro e w3 ⟨rfl, hb3⟩
    rw [HS1] at hb3
    obtain ⟨⟨c0, c1, c2, c3, c4⟩, hw3⟩ := HC.out _ hb3
    have hsz3 : w2.heap.size + 1 ≤ w3.heap.size := by have := hb3.size; omega
    have HB3 := Lib.hid hb3; clear hb3
    have HW3 := Lib.hid hw3; clear hw3
    by_cases hz : checkE x = 0
    · have hlen : (wtx x).length ≤ 65536 := (checkE_zero hz).2.2.2.2
      have H19 := f19_any x _ w3 (by omega) (XV_later HX.out HW3.out HW3.out.size) (HG.out _ HW3.out).2
      have hfm : fmtL x = wtx x := by unfold fmtL; rw [if_pos hz]
      rw [hfm] at H19
      have H13b := Lib.hid (fun w => f13_any ⟨(wtx x).toArray⟩ (by rw [size_mk]; unfold maxLen; omega) w (PT_back hz))
      rw [hz]
      go_wp2_with fail
      refine H19.mono ?_
      rintro e w4 ⟨rfl, hb4⟩
      have hb4' := HB3.out.trans (hb4.mono hsz3)
      have hsz4 : w2.heap.size + 1 ≤ w4.heap.size := by have := hb4'.size; omega
      have HB4 := Lib.hid hb4'; clear hb4 hb4'
      go_wp2_with fail
      refine (H13b.out _).mono ?_
      rintro e w5 ⟨⟨cs, rfl, hx⟩, hb5⟩
      have hx1 := XV_here hx
      clear hx
      obtain ⟨la2, lc2, aa2, ac2, rfl, -, -, h1, h2, h3, h4⟩ := XV_five hx1
      have HX1 := Lib.hid hx1; clear hx1
      have hb5' := HB4.out.trans (hb5.mono hsz4)
      clear c0 c1 c2 c3 c4
      obtain ⟨⟨c0, c1, c2, c3, c4⟩, hw5⟩ := HC.out _ hb5'
      have hsz5 : w2.heap.size < w5.heap.size := by have := hb5'.size; omega
      clear hb5 hb5'
      have HW5 := Lib.hid hw5; clear hw5
      have HW6 := Lib.hid (fun O => HW5.out.trans ((Below.refl w2.heap.size w5).alloc (Nat.le_of_lt hsz5) O))
      have H15 := Lib.hid (fun O => f15_any _ x _ _ (w5.alloc O) (Nat.le_refl _) (XV_later HX.out (HW6.out O) (HW6.out O).size) (XV_later HX1.out ((Below.refl _ _).alloc (Nat.le_refl _) O) (by simp)))
      go_wp2_with fail
      refine (H15.out _).mono ?_
      rintro e w6 ⟨rfl, hb6⟩
      have HW7 := Lib.hid ((HW6.out _).trans (hb6.mono (HW6.out _).size)); clear hb6
      go_wp2_with fail
      go_ret
      exact ⟨rfl, (HG.out _ HW7.out).1⟩
    · obtain ⟨h8, hlg⟩ := checkE_good HF.out HL.out hd hn hz
      have H20 := f20_any _ x _ w3 (Nat.le_refl _) hn HF.out HL.out (XV_later HX.out HW3.out HW3.out.size)
      rw [h8]
      have hlg' : (65536 : Int) < ((wtx x).length : Int) := by omega
      go_wp2_with fail
      refine H20.mono ?_
      rintro e w4 ⟨rfl, hb4⟩
      have HW4 := Lib.hid (HW3.out.trans (hb4.mono HW3.out.size)); clear hb4
      go_wp2_with fail
      go_ret
      exact ⟨rfl, (HG.out _ HW4.out).1⟩
end Go.Proofs.YtcaaadhhaanbcaaDoor
