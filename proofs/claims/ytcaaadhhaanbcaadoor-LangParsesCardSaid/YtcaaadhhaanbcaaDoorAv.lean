/- The chapter's examples: alive is true in every world that bears the table. -/
import Derived.Test.YtcaaadhhaanbcaaDoorWs
import Derived.Test.YtcaaadhhaanbcaaDoorPx
import Derived.Test.YtcaaadhhaanbcaaDoorWi
import Derived.Test.YtcaaadhhaanbcaaDoorLt
namespace Go.Proofs.YtcaaadhhaanbcaaDoor
open Go.RowKit

def num1 (n : Int) : Ex := .mk 1 [] n [] []
def exA : Ex := .mk 3 [114, 115] 0 [] [.mk 3 [103, 102] 0 [] [num1 8], num1 7, num1 3]
def textA : List UInt8 := [114, 115, 40, 32, 103, 102, 40, 56, 41, 32, 44, 55, 44, 51, 41]
def textB : List UInt8 := [102, 40, 49, 44, 44, 50, 41]
def outA : List UInt8 := [114, 115, 40, 103, 102, 40, 56, 41, 44, 32, 55, 44, 32, 51, 41]

def toksA : List Tok := [⟨1, [114, 115], 0, 0⟩, ⟨3, [40], 0, 2⟩, ⟨1, [103, 102], 0, 4⟩, ⟨3, [40], 0, 6⟩, ⟨2, [56], 8, 7⟩, ⟨3, [41], 0, 8⟩, ⟨3, [44], 0, 10⟩, ⟨2, [55], 7, 11⟩, ⟨3, [44], 0, 12⟩, ⟨2, [51], 3, 13⟩, ⟨3, [41], 0, 14⟩]
def toksB : List Tok := [⟨1, [102], 0, 0⟩, ⟨3, [40], 0, 1⟩, ⟨2, [49], 1, 2⟩, ⟨3, [44], 0, 3⟩, ⟨3, [44], 0, 4⟩, ⟨2, [50], 2, 5⟩, ⟨3, [41], 0, 6⟩]
theorem toksA_eq : toks textA = .ok toksA := by rfl
theorem toksB_eq : toks textB = .ok toksB := by rfl
theorem ptA : PT textA (some exA, 0, 0) := by
  refine .ok (n := 5) toksA_eq ?_
  refine .call rfl (by decide) (by decide) rfl ?_
  refine .arg (x := .mk 3 [103, 102] 0 [] [num1 8]) (n2 := 3) rfl rfl (.call rfl (by decide) (by decide) rfl (.arg rfl rfl (.num rfl (by decide) (by decide)) (.done rfl))) ?_
  refine .arg (x := num1 7) rfl rfl (.num rfl (by decide) (by decide)) ?_
  refine .arg (x := num1 3) rfl rfl (.num rfl (by decide) (by decide)) ?_
  exact .done rfl
theorem ptB : PT textB (none, 14, 4) := by
  refine .err (l := toksB.drop 4) toksB_eq ?_
  refine .callErr rfl (by decide) (by decide) rfl ?_
  refine .arg (x := num1 1) rfl rfl (.num rfl (by decide) (by decide)) ?_
  exact .argErr rfl rfl (.bad rfl)
theorem fmtA : fmtL exA = outA := by
  have h8 : Lib.itoa 8 = [56] := by simp [Lib.itoa, Lib.decDigits_one]
  have h7 : Lib.itoa 7 = [55] := by simp [Lib.itoa, Lib.decDigits_one]
  have h3 : Lib.itoa 3 = [51] := by simp [Lib.itoa, Lib.decDigits_one]
  have hw : wtx exA = outA := by simp [exA, num1, wtx, wtxL, h8, h7, h3, outA]
  have hc : checkE exA = 0 := checkE_ok (by decide) (by decide) (by decide) (by decide) (by rw [hw]; decide)
  rw [fmtL, if_pos hc, hw]
theorem nodesA : nodes exA = 5 := by decide

theorem f13_any (s : ByteArray) (hs : s.size ≤ maxLen) (w : World) {res : Option Ex × Int × Nat} (h : PT (bts s) res) : Calls Tryd.prog 13 #[.string s] w (ParsePost res w) := by
  cases h with
  | scan h => exact f13_scan s hs w h
  | @err ts l c h hx =>
    have hl := toks_len h
    rw [bts_len] at hl
    have := f13_err s hs w h hl.2 (by omega) hx
    rw [bts_len]; exact this
  | more h hx =>
    have hl := toks_len h
    rw [bts_len] at hl
    exact f13_more s hs w h hl.2 (by omega) hx
  | ok h hx =>
    have hl := toks_len h
    rw [bts_len] at hl
    exact f13_ok s hs w h hl.2 (by omega) hx

theorem XV_here {G : Nat → Prop} {w : World} {x : Ex} {cs : Array Value} (h : XV G w x cs) : XV (Lt w.heap.size) w x cs :=
  XV_mono (fun b o _ _ hc => ⟨World.block_lt_of_cell? w (⟨b, o, none⟩ : Addr) hc, hc⟩) h

set_option maxRecDepth 100000 in
set_option maxHeartbeats 4000000 in
theorem f12_any : Alive := by
  intro w ht
  have HA := Lib.hid (f13_any ⟨textA.toArray⟩ (by decide) w ptA)
  have HB := Lib.hid (fun w => f13_any ⟨textB.toArray⟩ (by decide) w ptB)
  have hn5 : nodes exA ≤ 4611686018427387904 := by rw [nodesA]; omega
  have HT := Lib.hid ht; clear ht
  go_enter Tryd.func12, Tryd.ntmps12
  go_wp2_with fail
  refine HA.out.mono ?_
  rintro e w1 ⟨⟨cs, rfl, hx⟩, hb1⟩
  have hx1 := XV_here hx
  clear hx
  obtain ⟨la, lc, aa, ac, rfl, hl, ha, h1, h2, h3, h4⟩ := XV_five hx1
  have HX1 := Lib.hid hx1; clear hx1
  have HB1 := Lib.hid hb1; clear hb1
  clear hl ha
  go_wp2_with fail
  refine (HB.out _).mono ?_
  rintro e w2 ⟨rfl, hb2⟩
  have hs1 : w1.heap.size < (w1.alloc (Obj.cells #[Value.int IntKind.i64 exA.kind, Value.string { data := exA.name.toArray }, Value.int IntKind.i64 exA.n, Value.slice la exA.list.length lc, Value.slice aa exA.args.length ac] 26)).heap.size := by simp
  have h0 : (w1.alloc (Obj.cells #[Value.int IntKind.i64 exA.kind, Value.string { data := exA.name.toArray }, Value.int IntKind.i64 exA.n, Value.slice la exA.list.length lc, Value.slice aa exA.args.length ac] 26)).heap[w1.heap.size]? = some (Obj.cells #[Value.int IntKind.i64 exA.kind, Value.string { data := exA.name.toArray }, Value.int IntKind.i64 exA.n, Value.slice la exA.list.length lc, Value.slice aa exA.args.length ac] 26) := heap_alloc_new _ _
  have hbn : Below w1.heap.size w1 (w1.alloc (Obj.cells #[Value.int IntKind.i64 exA.kind, Value.string { data := exA.name.toArray }, Value.int IntKind.i64 exA.n, Value.slice la exA.list.length lc, Value.slice aa exA.args.length ac] 26)) := (Below.refl _ _).alloc (Nat.le_refl _) _
  generalize w1.alloc _ = W1 at *
  have HW1 := Lib.hid (HB1.out.trans (hbn.mono HB1.out.size))
  have HXW := Lib.hid (XV_later HX1.out hbn hbn.size)
  have HW2 := Lib.hid (HW1.out.trans (hb2.mono HW1.out.size))
  have HX2 := Lib.hid (XV_later HXW.out hb2 hb2.size)
  have hlt2 : w1.heap.size < w2.heap.size := Nat.lt_of_lt_of_le hs1 hb2.size
  have hE := (hb2.block _ hs1).trans h0
  have c0 : w2.cell? ⟨w1.heap.size, 0, none⟩ = some (.int .i64 exA.kind) := by rw [Lib.cell_of_heap hE]; rfl
  have c1 : w2.cell? ⟨w1.heap.size, 1, none⟩ = some (.string ⟨exA.name.toArray⟩) := by rw [Lib.cell_of_heap hE]; rfl
  have c2 : w2.cell? ⟨w1.heap.size, 2, none⟩ = some (.int .i64 exA.n) := by rw [Lib.cell_of_heap hE]; rfl
  have c3 : w2.cell? ⟨w1.heap.size, 3, none⟩ = some (.slice la exA.list.length lc) := by rw [Lib.cell_of_heap hE]; rfl
  have c4 : w2.cell? ⟨w1.heap.size, 4, none⟩ = some (.slice aa exA.args.length ac) := by rw [Lib.cell_of_heap hE]; rfl
  clear hE h0 hs1 hb2 hbn
  have HC : Hid (∀ w', Below w2.heap.size w2 w' → w'.cell? ⟨w1.heap.size, 0, none⟩ = some (.int .i64 exA.kind) ∧ w'.cell? ⟨w1.heap.size, 1, none⟩ = some (.string ⟨exA.name.toArray⟩) ∧ w'.cell? ⟨w1.heap.size, 2, none⟩ = some (.int .i64 exA.n) ∧ w'.cell? ⟨w1.heap.size, 3, none⟩ = some (.slice la exA.list.length lc) ∧ w'.cell? ⟨w1.heap.size, 4, none⟩ = some (.slice aa exA.args.length ac)) := Lib.hid (fun w' hb => by
    refine ⟨?_, ?_, ?_, ?_, ?_⟩ <;> (rw [hb.cell hlt2]; assumption))
  have H19 := Lib.hid (fun w' (hb : Below w2.heap.size w2 w') => f19_any exA _ w' hn5 (XV_later HX2.out hb hb.size) (tab_on HT.out (HW2.out.trans (hb.mono HW2.out.size)) (Nat.le_trans HW2.out.size hb.size)))
  have H22 := Lib.hid (fun w' (hb : Below w2.heap.size w2 w') => f22_any _ exA _ w' (Nat.le_refl _) hn5 (XV_later HX2.out hb hb.size))
  go_wp2_with fail
  have hbb : Below w2.heap.size w2 (w2.alloc (Obj.cells #[Value.int IntKind.i64 0, Value.string { data := #[] }, Value.int IntKind.i64 0, Value.slice none 0 0, Value.slice none 0 0] 26)) := (Below.refl _ _).alloc (Nat.le_refl _) _
  refine (H19.out _ hbb).mono ?_
  rintro e w3 ⟨rfl, hb3⟩
  have hb3' := hbb.trans (hb3.mono hbb.size)
  clear hb3 hbb c0 c1 c2 c3 c4
  obtain ⟨c0, c1, c2, c3, c4⟩ := HC.out _ hb3'
  have h22 := H22.out w3 hb3'
  have HB3 := Lib.hid hb3'; clear hb3'
  rw [fmtA]
  rw [nodesA] at h22
  unfold outA
  go_wp2_with fail
  refine h22.mono ?_
  rintro e w4 ⟨rfl, hb4⟩
  have HB4 := Lib.hid (HB3.out.trans (hb4.mono HB3.out.size)); clear hb4
  go_wp2_with fail
  go_ret
  exact ⟨rfl, HW2.out.trans (HB4.out.mono HW2.out.size)⟩
end Go.Proofs.YtcaaadhhaanbcaaDoor
