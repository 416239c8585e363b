/- DeriveTexts: the law. -/
import Derived.Test.YtneofdapleakpaaDoorDd
namespace Go.Proofs.YtneofdapleakpaaDoor
open Go.RowKit

theorem RI.mono {S S' : Nat} {w : World} {v : Value} {zs : List Int} (h : RI S w v zs) (hS : S ≤ S') : RI S' w v zs := by
  obtain ⟨a, cap, hv, h1, h2, h3⟩ := h
  refine ⟨a, cap, hv, h1, h2, fun j hj => ?_⟩
  obtain ⟨b, o, ha, hlt, hc, hr⟩ := h3 j hj
  exact ⟨b, o, ha, Nat.lt_of_lt_of_le hlt hS, hc, hr⟩
theorem StepAt.mono {S S' : Nat} {w : World} {b o : Nat} {s : St} (h : StepAt S w b o s) (hS : S ≤ S') : StepAt S' w b o s :=
  ⟨Nat.lt_of_lt_of_le h.lt hS, h.cells, h.frm.mono hS, h.ranges⟩
theorem RSt.mono {S S' : Nat} {w : World} {v : Value} {l : List St} (h : RSt S w v l) (hS : S ≤ S') : RSt S' w v l := by
  obtain ⟨a, cap, hv, h1, h2, h3⟩ := h
  refine ⟨a, cap, hv, h1, h2, fun j hj => ?_⟩
  obtain ⟨b, o, ha, hs⟩ := h3 j hj
  exact ⟨b, o, ha, hs.mono hS⟩

set_option maxRecDepth 100000 in
set_option maxHeartbeats 4000000 in
theorem f3_any (w : World) (v : Value) (l : List St) (hv : RSt w.heap.size w v l) (ht : Tab w.heap.size w) (hn : Nms w.heap.size w) :
    Calls Tryd.prog 3 #[v] w fun e w' => e = .returned (.bool true) ∧ Below w.heap.size w w' := by
  have hv' := hv
  obtain ⟨a, cap, rfl, hc1, hc2, -⟩ := hv'
  have HV := Lib.hid hv
  have H4 : Hid (fewSt l → Calls Tryd.prog 4 #[.slice a l.length cap] w fun e w' => e = .returned (strV (txt l 0)) ∧ Below w.heap.size w w') := Lib.hid (fun hf => f4_any w _ l hv hf ht hn)
  have H5 : Hid (∀ W, fewSt l → Below w.heap.size w W → Calls Tryd.prog 5 #[.slice a l.length cap] W fun e w' => e = .returned (strV (txt l 0)) ∧ Below W.heap.size W w') := Lib.hid (fun W hf hb => f5_any W _ l ((hv.later hb).mono hb.size) hf)
  clear hv ht hn
  by_cases h40 : 40 < l.length
  · go_enter Tryd.func3, Tryd.ntmps3
    go_wp2_with fail
    go_ret
    exact ⟨rfl, Below.refl _ _⟩
  · go_enter Tryd.func3, Tryd.ntmps3
    go_wp2_with fail
    go_loopw [3] (fun i wr => ∃ k : Nat, k ≤ l.length ∧ i = .int .i64 k ∧ wr = w ∧ ∀ j (h : j < l.length), j < k → l[j].frm.length ≤ 100) (fun i _ => l.length - (intOf i).toNat)
    case atStart => exact ⟨0, by omega, rfl, rfl, fun j _ h => by omega⟩
    case round =>
      obtain ⟨k, hk, rfl, rfl, hall⟩ := hrel
      by_cases hlt : k < l.length
      · obtain ⟨_, _, hvs, _, _, hst⟩ := HV.out
        obtain ⟨rfl, -, rfl⟩ := Value.slice.inj hvs
        obtain ⟨b, o, rfl, hs⟩ := hst k hlt
        have k7 : wr.cell? ⟨b, o + k * 23 + 7, none⟩ = some (.slice l[k].fa l[k].frm.length l[k].fc) := hs.cells 7 _ rfl
        have hcapF := RI_cap hs.frm
        have HALL := Lib.hid hall
        clear hvs hst hs hall
        by_cases h1 : 100 < l[k].frm.length
        · generalize l[k].frm.length = m at *
          have h1i : (100 : Int) < (m : Int) := by omega
          clear h1
          go_wp2_with fail
          go_ret
          exact ⟨rfl, Below.refl _ _⟩
        · have HM : Hid (l[k].frm.length ≤ 100) := Lib.hid (by omega)
          generalize hm : l[k].frm.length = m at k7 hcapF h1
          have h1i : ¬ (100 : Int) < (m : Int) := by omega
          clear hm h1
          go_wp2_with fail
          refine ⟨⟨k + 1, by omega, by go_num, trivial, fun j h hj => ?_⟩, by simp [intOf]; omega⟩
          rcases Nat.lt_or_ge j k with h2 | h2
          · exact HALL.out j h h2
          · obtain rfl : j = k := by omega
            exact HM.out
      · have hkl : k = l.length := by omega
        subst hkl
        have hf : fewSt l := ⟨by omega, fun i h => hall i h h⟩
        have h4 := Lib.hid (H4.out hf)
        have h5 := Lib.hid (fun W hb => H5.out W hf hb)
        clear hall hf
        go_wp2_with fail
        refine h4.out.mono ?_
        rintro e w1 ⟨rfl, hb1⟩
        have HB1 := Lib.hid hb1; clear hb1
        go_wp2_with fail
        refine (h5.out _ HB1.out).mono ?_
        rintro e w2 ⟨rfl, hb2⟩
        have HB2 := Lib.hid (HB1.out.trans (hb2.mono HB1.out.size)); clear hb2
        go_wp2_with fail
        go_ret
        exact ⟨rfl, HB2.out⟩
end Go.Proofs.YtneofdapleakpaaDoor
