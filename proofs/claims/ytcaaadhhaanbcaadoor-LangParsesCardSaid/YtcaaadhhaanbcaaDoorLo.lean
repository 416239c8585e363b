/- The law LangOffsets. -/
import Derived.Test.YtcaaadhhaanbcaaDoorCk
import Derived.Test.YtcaaadhhaanbcaaDoorBp
import Derived.Test.YtcaaadhhaanbcaaDoorAv
import Derived.Test.YtcaaadhhaanbcaaDoorSm
namespace Go.Proofs.YtcaaadhhaanbcaaDoor
open Go.RowKit

def zeroX : Ex := .mk 0 [] 0 [] []
theorem XV_zero {G : Nat → Prop} {w : World} : XV G w zeroX #[.int .i64 0, .string ⟨#[]⟩, .int .i64 0, .slice none 0 0, .slice none 0 0] :=
  ⟨_, _, rfl, RInts_nil, RArgs_nil⟩
theorem checkE_form5 {x : Ex} (hf : formB x = true) : checkE x ≠ 5 := by
  unfold checkE
  rw [if_neg (by simp [hf])]
  split
  · decide
  · split <;> decide
theorem same_zero (w : World) : Calls Tryd.prog 15 #[.agg #[.int .i64 0, .string ⟨#[]⟩, .int .i64 0, .slice none 0 0, .slice none 0 0], .agg #[.int .i64 0, .string ⟨#[]⟩, .int .i64 0, .slice none 0 0, .slice none 0 0]] w
    fun e w' => e = .returned (.bool true) ∧ Below w.heap.size w w' := f15_any _ zeroX _ _ w (Nat.le_refl _) XV_zero XV_zero

set_option maxRecDepth 100000 in
set_option maxHeartbeats 8000000 in
theorem f9_any (s : ByteArray) (hs : s.size ≤ maxLen) (w : World) (ht : Tab w.heap.size w) :
    Calls Tryd.prog 9 #[.string s] w fun e w' => e = .returned (.bool true) ∧ Below w.heap.size w w' := by
  have hnot : ∀ (x : Bool) (w : World), (Op.unary .not (.bool x)).run Tryd.prog w = .ok (.bool (!x)) w := fun _ _ => rfl
  have H12 := Lib.hid (f12_any w ht)
  have HT := Lib.hid ht; clear ht
  obtain ⟨⟨ox, c, p⟩, hpt⟩ := PT.total (bts s)
  have H13 := Lib.hid (fun w => f13_any s hs w hpt)
  have H21 := Lib.hid (f21_any s hs)
  cases ox with
  | some x =>
    obtain ⟨rfl, rfl, hf, hl, hd, hn⟩ := PT_good hpt
    clear hpt H21
    go_enter Tryd.func9, Tryd.ntmps9
    go_wp2_with fail
    refine H12.out.mono ?_
    rintro e w1 ⟨rfl, hb1⟩
    have HW1 := Lib.hid hb1; clear hb1
    go_wp2_with fail
    refine (H13.out _).mono ?_
    rintro e w2 ⟨⟨cs, rfl, hx⟩, hb2⟩
    have HW2 := Lib.hid (HW1.out.trans (hb2.mono HW1.out.size)); clear hb2
    have hx1 := XV_here hx
    clear hx
    obtain ⟨la, lc, aa, ac, rfl, -, -, h1, h2, h3, h4⟩ := XV_five hx1
    have HX := Lib.hid hx1; clear hx1
    have HG := Lib.hid (fun O => (Below.refl w2.heap.size w2).alloc (Nat.le_refl _) O)
    have H18 := Lib.hid (fun O => f18_any x _ (w2.alloc O) (by omega) (XV_later HX.out (HG.out O) (HG.out O).size))
    have h5 : (checkE x != 5) = true := by simpa using checkE_form5 hf
    go_wp2_with fail
    refine (H18.out _).mono ?_
    rintro e w3 ⟨rfl, hb3⟩
    have HW3 := Lib.hid (HW2.out.trans (((HG.out _).trans (hb3.mono (HG.out _).size)).mono HW2.out.size)); clear hb3
    go_wp2_with fail
    go_ret
    exact ⟨rfl, HW3.out⟩
  | none =>
    obtain ⟨hc, hple, hor⟩ := PT_bad hpt
    rw [bts_len] at hple
    have hc' : (c == 0) = false := by simpa using hc
    clear hpt
    unfold maxLen at hs
    cases htk : toks (bts s) with
    | err c' p' =>
      obtain ⟨rfl, rfl⟩ : c' = c ∧ p' = p := by
        rcases hor with h | ⟨ts, h, _⟩
        · rw [htk] at h; cases h; exact ⟨rfl, rfl⟩
        · rw [htk] at h; cases h
      have K21 : Hid (∀ w, Calls Tryd.prog 21 #[.string s] w fun e w' => e = .returned (.tuple #[.slice none 0 0, .int .i64 c', .int .i64 p']) ∧ Below w.heap.size w w') := Lib.hid (fun w => (H21.out w).mono fun e w' h => by unfold TokensPost at h; rw [htk] at h; exact h)
      clear H21 htk hor
      go_enter Tryd.func9, Tryd.ntmps9
      go_wp2_with fail
      refine H12.out.mono ?_
      rintro e w1 ⟨rfl, hb1⟩
      have HW1 := Lib.hid hb1; clear hb1
      go_wp2_with fail
      refine (H13.out _).mono ?_
      rintro e w2 ⟨rfl, hb2⟩
      have HW2 := Lib.hid (HW1.out.trans (hb2.mono HW1.out.size)); clear hb2
      have HW3 := Lib.hid (fun O => HW2.out.alloc HW2.out.size O)
      go_wp2_with fail
      refine (same_zero _).mono ?_
      rintro e w3 ⟨rfl, hb3⟩
      have HW4 := Lib.hid ((HW3.out _).trans (hb3.mono (HW3.out _).size)); clear hb3
      go_wp2_with fail
      refine (K21.out _).mono ?_
      rintro e w4 ⟨rfl, hb4⟩
      have HW5 := Lib.hid (HW4.out.trans (hb4.mono HW4.out.size)); clear hb4
      go_wp2_with fail
      go_ret
      exact ⟨rfl, HW5.out⟩
    | ok ts =>
      have hlen := (toks_len htk).1
      have hlen2 := (toks_len htk).2
      rw [bts_len] at hlen hlen2
      have hend : (∃ t ∈ ts, t.pos = p) ∨ p = s.size := by
        rcases hor with h | ⟨ts', h, h2⟩
        · rw [htk] at h; cases h
        · rw [htk] at h; cases h; rw [bts_len] at h2; exact h2
      have HE := Lib.hid hend; clear hend
      have K21 : Hid (∀ w, Calls Tryd.prog 21 #[.string s] w fun e w' => ∃ v, e = .returned (.tuple #[v, .int .i64 0, .int .i64 0]) ∧ w'.ownsRow w.heap.size 40 4 v ts.length (toksCells ts) ∧ Below w.heap.size w w') := Lib.hid (fun w => (H21.out w).mono fun e w' h => by unfold TokensPost at h; rw [htk] at h; obtain ⟨⟨v, h1, h2⟩, h3⟩ := h; exact ⟨v, h1, h2, h3⟩)
      clear H21 htk hor
      go_enter Tryd.func9, Tryd.ntmps9
      go_wp2_with fail
      refine H12.out.mono ?_
      rintro e w1 ⟨rfl, hb1⟩
      have HW1 := Lib.hid hb1; clear hb1
      go_wp2_with fail
      refine (H13.out _).mono ?_
      rintro e w2 ⟨rfl, hb2⟩
      have HW2 := Lib.hid (HW1.out.trans (hb2.mono HW1.out.size)); clear hb2
      have HW3 := Lib.hid (fun O => HW2.out.alloc HW2.out.size O)
      go_wp2_with fail
      refine (same_zero _).mono ?_
      rintro e w3 ⟨rfl, hb3⟩
      have HW4 := Lib.hid ((HW3.out _).trans (hb3.mono (HW3.out _).size)); clear hb3
      go_wp2_with fail
      refine (K21.out _).mono ?_
      rintro e w4 ⟨v, rfl, ho, hb4⟩
      have HW5 := Lib.hid (HW4.out.trans (hb4.mono HW4.out.size)); clear hb4
      obtain ⟨a, cap, rfl, hc1, hc2⟩ := row_form ho
      have HO := Lib.hid ho; clear ho
      go_wp2_with fail
      go_loopw [60] (fun i wr => ∃ k : Nat, k ≤ ts.length ∧ i = .int .i64 k ∧ Below w4.heap.size w4 wr ∧ ∀ j (h : j < ts.length), j < k → ts[j].pos ≠ p) (fun i _ => ts.length - (intOf i).toNat)
      case atStart => exact ⟨0, by omega, rfl, Below.refl _ _, fun _ _ h => by omega⟩
      case round =>
        obtain ⟨k, hk, rfl, hb, hall⟩ := hrel
        have Hall := Lib.hid hall; clear hall
        have Hb := Lib.hid hb; clear hb
        by_cases hlt : k < ts.length
        · obtain ⟨g, rfl, c0, c1, c2, c3⟩ := row_here (own_below HO.out Hb.out) k hlt
          have HN : Hid (ts[k].pos ≠ p → ∀ j (h : j < ts.length), j < k + 1 → ts[j].pos ≠ p) := Lib.hid (fun h j hj hjk => by
            rcases Nat.lt_or_ge j k with h2 | h2
            · exact Hall.out j hj h2
            · obtain rfl : j = k := by omega
              exact h)
          have HBn := Lib.hid (fun O => Hb.out.alloc Hb.out.size O)
          generalize ts[k] = t at *
          by_cases hp : (t.pos : Int) = (p : Int)
          · go_wp2_with fail
            go_ret
            exact ⟨rfl, HW5.out.trans ((HBn.out _).mono HW5.out.size)⟩
          · have hp' : ((t.pos : Int) == (p : Int)) = false := by simpa using hp
            go_wp2_with fail
            exact ⟨⟨k + 1, by omega, by go_num, HBn.out _, HN.out (by omega)⟩, by simp [intOf]; omega⟩
        · have hpe : (p : Int) = (s.size : Int) := by
            rcases HE.out with ⟨t, hm, hp⟩ | h
            · obtain ⟨j, hj, rfl⟩ := List.getElem_of_mem hm
              exact absurd hp (Hall.out j hj (by omega))
            · omega
          go_wp2_with fail
          go_ret
          exact ⟨rfl, HW5.out.trans (Hb.out.mono HW5.out.size)⟩
end Go.Proofs.YtcaaadhhaanbcaaDoor
