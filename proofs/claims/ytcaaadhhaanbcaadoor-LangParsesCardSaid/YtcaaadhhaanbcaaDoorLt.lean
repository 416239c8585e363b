/- The law LangTokens. -/
import Derived.Test.YtcaaadhhaanbcaaDoorWl
import Derived.Test.YtcaaadhhaanbcaaDoorWs
import Derived.Test.YtcaaadhhaanbcaaDoorPx
namespace Go.Proofs.YtcaaadhhaanbcaaDoor
open Go.RowKit

def Alive : Prop := ∀ w, Tab w.heap.size w → Calls Tryd.prog 12 #[] w fun e w' => e = .returned (.bool true) ∧ Below w.heap.size w w'

theorem row_form {w : World} {B : Nat} {v : Value} {ts : List Tok} (h : w.ownsRow B 40 4 v ts.length (toksCells ts)) : ∃ a cap, v = .slice a ts.length cap ∧ ts.length ≤ cap ∧ cap ≤ 9223372036854775807 := by
  rcases h.2 with ⟨hv, h0⟩ | ⟨g, cap, cur, hv, hb, hh, hn, hm, hs, ht⟩
  · exact ⟨none, 0, by rw [hv, h0], by omega, by omega⟩
  · exact ⟨_, cap, hv, hn, hm⟩
theorem row_here {w : World} {B len cap : Nat} {a : Option Addr} {ts : List Tok} (h : w.ownsRow B 40 4 (.slice a len cap) ts.length (toksCells ts)) (i : Nat) (hi : i < ts.length) :
    ∃ g, a = some ⟨g, 0, none⟩ ∧ w.cell? ⟨g, i * 4, none⟩ = some (.int .i64 ts[i].kind) ∧ w.cell? ⟨g, i * 4 + 1, none⟩ = some (strV ts[i].text) ∧
      w.cell? ⟨g, i * 4 + 2, none⟩ = some (.int .i64 ts[i].n) ∧ w.cell? ⟨g, i * 4 + 3, none⟩ = some (.int .i64 ts[i].pos) := by
  rcases h.2 with ⟨hv, h0⟩ | ⟨g, cap', cur, hv, hb, hh, hn, hm, hs, ht⟩
  · omega
  · have hown := h
    obtain ⟨rfl, rfl, rfl⟩ := Value.slice.inj hv
    have hc : ∀ j < 4, w.cell? ⟨g, i * 4 + j, none⟩ = (tokCells ts[i])[j]? := fun j hj => by
      rw [hown.cellAt _ (by omega), toksCells_get ts i j ts[i] (List.getElem?_eq_getElem hi) hj]
    exact ⟨g, rfl, hc 0 (by decide), hc 1 (by decide), hc 2 (by decide), hc 3 (by decide)⟩

set_option maxRecDepth 100000 in
set_option maxHeartbeats 4000000 in
theorem f11_of (H12 : Alive) (s : ByteArray) (hs : s.size ≤ maxLen) (w : World) (ht : Tab w.heap.size w) :
    Calls Tryd.prog 11 #[.string s] w fun e w' => e = .returned (.bool true) ∧ Below w.heap.size w w' := by
  have hnot : ∀ (x : Bool) (w : World), (Op.unary .not (.bool x)).run Tryd.prog w = .ok (.bool (!x)) w := fun _ _ => rfl
  have h12 := H12 w ht
  clear H12 ht
  have H24 := Lib.hid (f24_any s hs)
  have H21 := Lib.hid (f21_any s hs)
  cases htk : toks (bts s) with
  | err c p =>
    have K24 : Hid (∀ w, Calls Tryd.prog 24 #[.string s] w fun e w' => e = .returned (.tuple #[.slice none 0 0, .int .i64 c, .int .i64 p]) ∧ Below w.heap.size w w') := Lib.hid (fun w => (H24.out w).mono fun e w' h => by unfold TokensPost at h; rw [htk] at h; exact h)
    have K21 : Hid (∀ w, Calls Tryd.prog 21 #[.string s] w fun e w' => e = .returned (.tuple #[.slice none 0 0, .int .i64 c, .int .i64 p]) ∧ Below w.heap.size w w') := Lib.hid (fun w => (H21.out w).mono fun e w' h => by unfold TokensPost at h; rw [htk] at h; exact h)
    clear H24 H21 htk hs
    go_enter Tryd.func11, Tryd.ntmps11
    go_wp2_with fail
    refine h12.mono ?_
    rintro e w1 ⟨rfl, hb1⟩
    have HB1 := Lib.hid hb1; clear hb1
    go_wp2_with fail
    refine (K24.out w1).mono ?_
    rintro e w2 ⟨rfl, hb2⟩
    have HB2 := Lib.hid (HB1.out.trans (hb2.mono HB1.out.size)); clear hb2
    go_wp2_with fail
    refine (K21.out w2).mono ?_
    rintro e w3 ⟨rfl, hb3⟩
    have HB3 := Lib.hid (HB2.out.trans (hb3.mono HB2.out.size)); clear hb3
    go_wp2_with fail
    go_loopw [41] (fun i wr => i = .int .i64 0 ∧ wr = w3) (fun _ _ => 0)
    case atStart => exact ⟨rfl, rfl⟩
    case round =>
      obtain ⟨rfl, rfl⟩ := hrel
      go_wp2_with fail
      go_ret
      exact ⟨rfl, HB3.out⟩
  | ok ts =>
    have hlen := (toks_len htk).1
    have hlen2 := (toks_len htk).2
    have K24 : Hid (∀ w, Calls Tryd.prog 24 #[.string s] w fun e w' => ∃ v, e = .returned (.tuple #[v, .int .i64 0, .int .i64 0]) ∧ w'.ownsRow w.heap.size 40 4 v ts.length (toksCells ts) ∧ Below w.heap.size w w') := Lib.hid (fun w => (H24.out w).mono fun e w' h => by unfold TokensPost at h; rw [htk] at h; obtain ⟨⟨v, h1, h2⟩, h3⟩ := h; exact ⟨v, h1, h2, h3⟩)
    have K21 : Hid (∀ w, Calls Tryd.prog 21 #[.string s] w fun e w' => ∃ v, e = .returned (.tuple #[v, .int .i64 0, .int .i64 0]) ∧ w'.ownsRow w.heap.size 40 4 v ts.length (toksCells ts) ∧ Below w.heap.size w w') := Lib.hid (fun w => (H21.out w).mono fun e w' h => by unfold TokensPost at h; rw [htk] at h; obtain ⟨⟨v, h1, h2⟩, h3⟩ := h; exact ⟨v, h1, h2, h3⟩)
    clear H24 H21 htk hs
    rw [bts_len] at hlen hlen2
    go_enter Tryd.func11, Tryd.ntmps11
    go_wp2_with fail
    refine h12.mono ?_
    rintro e w1 ⟨rfl, hb1⟩
    have HB1 := Lib.hid hb1; clear hb1
    go_wp2_with fail
    refine (K24.out w1).mono ?_
    rintro e w2 ⟨v, rfl, ho2, hb2⟩
    have HO2 := Lib.hid ho2; clear ho2
    have HB2 := Lib.hid (HB1.out.trans (hb2.mono HB1.out.size)); clear hb2
    go_wp2_with fail
    refine (K21.out w2).mono ?_
    rintro e w3 ⟨v', rfl, ho3, hb3⟩
    have HP2 := Lib.hid (own_below HO2.out hb3)
    have HO3 := Lib.hid ho3; clear ho3
    have HB3 := Lib.hid (HB2.out.trans (hb3.mono HB2.out.size)); clear hb3
    obtain ⟨a, cap, rfl, hc1, hc2⟩ := row_form HP2.out
    obtain ⟨a', cap', rfl, hc1', hc2'⟩ := row_form HO3.out
    go_wp2_with fail
    go_loopw [41] (fun i wr => ∃ k : Nat, k ≤ ts.length ∧ i = .int .i64 k ∧ Drw w3 wr) (fun i _ => ts.length - (intOf i).toNat)
    case atStart => exact ⟨0, by omega, rfl, Drw.refl _⟩
    case round =>
      obtain ⟨k, hk, rfl, hd⟩ := hrel
      obtain ⟨nd, rfl⟩ := hd
      by_cases hlt : k < ts.length
      · obtain ⟨g, rfl, c0, c1, c2, c3⟩ := row_here HP2.out k hlt
        obtain ⟨g', rfl, d0, d1, d2, d3⟩ := row_here HO3.out k hlt
        have hi0 : (0 : Int) ≤ (k : Int) := Int.natCast_nonneg _
        have hi1 : (k : Int) < (ts.length : Int) := by omega
        generalize ts[k] = t at *
        go_wp2_with fail
        go_quiet (fail)
        go_wp2_with fail
        exact ⟨⟨k + 1, by omega, by go_num, _, rfl⟩, by simp [intOf]; omega⟩
      · go_wp2_with fail
        go_ret
        exact ⟨rfl, HB3.out.trans ⟨rfl, rfl, rfl, Nat.le_refl _, fun _ _ => rfl⟩⟩
end Go.Proofs.YtcaaadhhaanbcaaDoor
