/- The walk of the reference's Form. -/
import Derived.Test.YtcaaadhhaanbcaaDoorWy
namespace Go.Proofs.YtcaaadhhaanbcaaDoor
open Go.RowKit

theorem nodeB_mk (k : Int) (nm : List UInt8) (n : Int) (zs : List Int) (ag : List Ex) : nodeB (.mk k nm n zs ag) = (zs.all isNum &&
  (if k = 1 then isNum n && nm.isEmpty && zs.isEmpty && ag.isEmpty
  else if k = 2 then n == 0 && nm.isEmpty && ag.isEmpty
  else if k = 3 then n == 0 && isNam nm && zs.isEmpty
  else if k = 4 then n == 0 && isNam nm && zs.isEmpty && ag.isEmpty
  else false)) := rfl
theorem isNam_nil : isNam [] = false := rfl
def RFormSays (m : Nat) : Prop := ∀ (x : Ex) (cs : Array Value) (w : World), nodes x ≤ m → XV (Lt w.heap.size) w x cs →
    Calls Tryd.prog 37 #[.agg cs] w fun e w' => e = .returned (.bool (formB x)) ∧ Below w.heap.size w w'

set_option maxRecDepth 100000 in
set_option maxHeartbeats 16000000 in
theorem f37_step (m : Nat) (ih : RFormSays m) : RFormSays (m + 1) := by
  intro x cs w hm hx
  have hnot : ∀ (x : Bool) (w : World), (Op.unary .not (.bool x)).run Tryd.prog w = .ok (.bool (!x)) w := fun _ _ => rfl
  obtain ⟨la, lc, a, cap, rfl, hl, ha, hlc, hlc2, hcap, hcap2⟩ := XV_five hx
  clear hx
  have IH := Lib.hid ih; clear ih
  have hne := nodes_eq x
  have HFE := Lib.hid (formB_eq x)
  have HA := Lib.hid ha; clear ha
  have HL := Lib.hid hl; clear hl
  have HW : Hid (∀ o, Below w.heap.size w (w.alloc o)) := Lib.hid (fun o => (Below.refl _ _).alloc (Nat.le_refl _) o)
  obtain ⟨k, nm, n, zs, ag⟩ := x
  simp only [Ex.kind, Ex.name, Ex.n, Ex.list, Ex.args] at *
  generalize hln : zs.length = ln at *
  generalize hal : ag.length = al at *
  have HB0 : Hid (Below (w.heap.size + 1) (w.alloc (Obj.cells #[Value.int IntKind.i64 k, strV nm, Value.int IntKind.i64 n, Value.slice la ln lc, Value.slice a al cap] 26)) (w.alloc (Obj.cells #[Value.int IntKind.i64 k, strV nm, Value.int IntKind.i64 n, Value.slice la ln lc, Value.slice a al cap] 26))) := Lib.hid (Below.refl _ _)
  have HC : Hid (∀ w', Below (w.heap.size + 1) (w.alloc (Obj.cells #[Value.int IntKind.i64 k, strV nm, Value.int IntKind.i64 n, Value.slice la ln lc, Value.slice a al cap] 26)) w' → (w'.cell? ⟨w.heap.size, 0, none⟩ = some (.int .i64 k) ∧ w'.cell? ⟨w.heap.size, 1, none⟩ = some (strV nm) ∧ w'.cell? ⟨w.heap.size, 2, none⟩ = some (.int .i64 n) ∧
      w'.cell? ⟨w.heap.size, 3, none⟩ = some (.slice la ln lc) ∧ w'.cell? ⟨w.heap.size, 4, none⟩ = some (.slice a al cap)) ∧ Below w.heap.size w w') := Lib.hid (fun w' hb => by
    refine ⟨⟨?_, ?_, ?_, ?_, ?_⟩, ((Below.refl _ _).alloc (Nat.le_refl _) _).trans (hb.mono (by omega))⟩ <;> (rw [hb.cell (by simp), Lib.cell_of_heap (heap_alloc_new w _)]; rfl))
  by_cases hk1 : k = 1
  · subst hk1
    cases ag with
    | cons y ys =>
      have hpos : (0 : Int) < al := by simp at hal; omega
      have HN : Hid (nodeB (.mk 1 nm n zs (y :: ys)) = false) := Lib.hid (by first | (simp [nodeB_mk, *]; done) | simp [nodeB_mk, isNam_nil, *])
      go_enter Tryd.func37, Tryd.ntmps37
      go_wp2_with (first | (go_at_call 69; refine (f69_any _ _).mono ?_; rintro e w' ⟨rfl, rfl⟩; simp only [hq]) | (go_at_call 69; refine (f69_any _ _).mono ?_; rintro e w' ⟨rfl, rfl⟩; simp only [hz]) | (go_at_call 68; refine (f68_any _ _).mono ?_; rintro e w' ⟨rfl, rfl⟩; simp only [hm0]))
      go_ret
      exact ⟨by rw [HFE.out, HN.out]; rfl, HW.out _⟩
    | nil =>
      simp only [List.length_nil] at hal; subst hal
      cases zs with
      | cons z zs =>
        have hpos : (0 : Int) < ln := by simp at hln; omega
        have HN : Hid (nodeB (.mk 1 nm n (z :: zs) []) = false) := Lib.hid (by first | (simp [nodeB_mk, *]; done) | simp [nodeB_mk, isNam_nil, *])
        go_enter Tryd.func37, Tryd.ntmps37
        go_wp2_with (first | (go_at_call 69; refine (f69_any _ _).mono ?_; rintro e w' ⟨rfl, rfl⟩; simp only [hq]) | (go_at_call 69; refine (f69_any _ _).mono ?_; rintro e w' ⟨rfl, rfl⟩; simp only [hz]) | (go_at_call 68; refine (f68_any _ _).mono ?_; rintro e w' ⟨rfl, rfl⟩; simp only [hm0]))
        go_ret
        exact ⟨by rw [HFE.out, HN.out]; rfl, HW.out _⟩
      | nil =>
        simp only [List.length_nil] at hln; subst hln
        cases nm with
        | nil =>
          cases hq : isNum n
          · skip
            have HN : Hid (nodeB (.mk 1 [] n [] []) = false) := Lib.hid (by first | (simp [nodeB_mk, *]; done) | simp [nodeB_mk, isNam_nil, *])
            go_enter Tryd.func37, Tryd.ntmps37
            go_wp2_with (first | (go_at_call 69; refine (f69_any _ _).mono ?_; rintro e w' ⟨rfl, rfl⟩; simp only [hq]) | (go_at_call 69; refine (f69_any _ _).mono ?_; rintro e w' ⟨rfl, rfl⟩; simp only [hz]) | (go_at_call 68; refine (f68_any _ _).mono ?_; rintro e w' ⟨rfl, rfl⟩; simp only [hm0]))
            go_ret
            exact ⟨by rw [HFE.out, HN.out]; rfl, HW.out _⟩
          · skip
            have HN : Hid (nodeB (.mk 1 [] n [] []) = [].all isNum) := Lib.hid (by simp [nodeB_mk, *])
            go_enter Tryd.func37, Tryd.ntmps37
            go_wp2_with (first | (go_at_call 69; refine (f69_any _ _).mono ?_; rintro e w' ⟨rfl, rfl⟩; simp only [hq]) | (go_at_call 69; refine (f69_any _ _).mono ?_; rintro e w' ⟨rfl, rfl⟩; simp only [hz]) | (go_at_call 68; refine (f68_any _ _).mono ?_; rintro e w' ⟨rfl, rfl⟩; simp only [hm0]))
            generalize w.alloc _ = W0 at *
            go_loopw [4] (fun i wr => ∃ k : Nat, k ≤ ([] : List Int).length ∧ i = .int .i64 k ∧ Below (w.heap.size + 1) W0 wr ∧ (([] : List Int).take k).all isNum = true) (fun i _ => ([] : List Int).length - (intOf i).toNat)
            case atStart => exact ⟨0, by omega, rfl, HB0.out, by simp⟩
            case round =>
              obtain ⟨k, hk, rfl, hb, hall⟩ := hrel
              obtain ⟨⟨c0, c1, c2, c3, c4⟩, hbw⟩ := HC.out _ hb
              have Hall := Lib.hid hall; clear hall
              have Hb := Lib.hid hb; clear hb
              have Hbw := Lib.hid hbw; clear hbw
              by_cases hlt : k < ([] : List Int).length
              · exact absurd hlt (by simp)
              · have HZ : Hid (([] : List Int).all isNum = true) := Lib.hid (by have := Hall.out; rwa [List.take_of_length_le (by omega)] at this)
                go_wp2_with fail
                go_loopw [5] (fun i wr => ∃ k : Nat, k ≤ ([] : List Ex).length ∧ i = .int .i64 k ∧ Below (w.heap.size + 1) W0 wr ∧ (([] : List Ex).take k).all formB = true) (fun i _ => ([] : List Ex).length - (intOf i).toNat)
                case atStart => exact ⟨0, by omega, rfl, Hb.out, by simp⟩
                case round =>
                  clear c0 c1 c2 c3 c4 Hb Hbw
                  obtain ⟨k, hk, rfl, hb, hall⟩ := hrel
                  obtain ⟨⟨c0, c1, c2, c3, c4⟩, hbw⟩ := HC.out _ hb
                  have Hall2 := Lib.hid hall; clear hall
                  have Hb := Lib.hid hb; clear hb
                  have Hbw := Lib.hid hbw; clear hbw
                  by_cases hlt : k < ([] : List Ex).length
                  · exact absurd hlt (by simp)
                  · go_wp2_with fail
                    go_ret
                    refine ⟨?_, Hbw.out⟩
                    have := Hall2.out
                    rw [List.take_of_length_le (by omega)] at this
                    rw [HFE.out, HN.out, HZ.out, formBL_eq, this]; rfl
        | cons c cr =>
          have HN : Hid (nodeB (.mk 1 (c :: cr) n [] []) = false) := Lib.hid (by first | (simp [nodeB_mk, *]; done) | simp [nodeB_mk, isNam_nil, *])
          go_enter Tryd.func37, Tryd.ntmps37
          go_wp2_with (first | (go_at_call 69; refine (f69_any _ _).mono ?_; rintro e w' ⟨rfl, rfl⟩; simp only [hq]) | (go_at_call 69; refine (f69_any _ _).mono ?_; rintro e w' ⟨rfl, rfl⟩; simp only [hz]) | (go_at_call 68; refine (f68_any _ _).mono ?_; rintro e w' ⟨rfl, rfl⟩; simp only [hm0]))
          go_ret
          exact ⟨by rw [HFE.out, HN.out]; rfl, HW.out _⟩
  · skip
    by_cases hk2 : k = 2
    · subst hk2
      cases ag with
      | cons y ys =>
        have hpos : (0 : Int) < al := by simp at hal; omega
        have HN : Hid (nodeB (.mk 2 nm n zs (y :: ys)) = false) := Lib.hid (by first | (simp [nodeB_mk, *]; done) | simp [nodeB_mk, isNam_nil, *])
        go_enter Tryd.func37, Tryd.ntmps37
        go_wp2_with (first | (go_at_call 69; refine (f69_any _ _).mono ?_; rintro e w' ⟨rfl, rfl⟩; simp only [hq]) | (go_at_call 69; refine (f69_any _ _).mono ?_; rintro e w' ⟨rfl, rfl⟩; simp only [hz]) | (go_at_call 68; refine (f68_any _ _).mono ?_; rintro e w' ⟨rfl, rfl⟩; simp only [hm0]))
        go_ret
        exact ⟨by rw [HFE.out, HN.out]; rfl, HW.out _⟩
      | nil =>
        simp only [List.length_nil] at hal; subst hal
        by_cases hn : n = 0
        · subst hn
          have hq : isNum 0 = true := by decide
          cases nm with
          | nil =>
            have HN : Hid (nodeB (.mk 2 [] 0 zs []) = zs.all isNum) := Lib.hid (by simp [nodeB_mk, *])
            go_enter Tryd.func37, Tryd.ntmps37
            go_wp2_with (first | (go_at_call 69; refine (f69_any _ _).mono ?_; rintro e w' ⟨rfl, rfl⟩; simp only [hq]) | (go_at_call 69; refine (f69_any _ _).mono ?_; rintro e w' ⟨rfl, rfl⟩; simp only [hz]) | (go_at_call 68; refine (f68_any _ _).mono ?_; rintro e w' ⟨rfl, rfl⟩; simp only [hm0]))
            generalize w.alloc _ = W0 at *
            go_loopw [4] (fun i wr => ∃ k : Nat, k ≤ (zs : List Int).length ∧ i = .int .i64 k ∧ Below (w.heap.size + 1) W0 wr ∧ ((zs : List Int).take k).all isNum = true) (fun i _ => (zs : List Int).length - (intOf i).toNat)
            case atStart => exact ⟨0, by omega, rfl, HB0.out, by simp⟩
            case round =>
              obtain ⟨k, hk, rfl, hb, hall⟩ := hrel
              obtain ⟨⟨c0, c1, c2, c3, c4⟩, hbw⟩ := HC.out _ hb
              have Hall := Lib.hid hall; clear hall
              have Hb := Lib.hid hb; clear hb
              have Hbw := Lib.hid hbw; clear hbw
              by_cases hlt : k < (zs : List Int).length
              · obtain ⟨b, o, rfl, _, hc⟩ := RInts_get (RInts_later HL.out Hbw.out (Nat.le_refl _)) k hlt
                have HT : Hid (((zs : List Int).take (k + 1)).all isNum = isNum (zs : List Int)[k]) := Lib.hid (by
                  rw [List.take_succ_eq_append_getElem hlt, List.all_append, Hall.out]; simp)
                cases hz : isNum (zs : List Int)[k]
                · have HF : Hid ((zs : List Int).all isNum = false) := Lib.hid (by
                    rw [Bool.eq_false_iff]; intro h
                    rw [List.all_eq_true] at h
                    exact absurd (h _ (List.getElem_mem hlt)) (by rw [hz]; decide))
                  go_wp2_with (go_at_call 69; refine (f69_any _ _).mono ?_; rintro e w' ⟨rfl, rfl⟩; simp only [hz])
                  go_ret
                  exact ⟨by rw [HFE.out, HN.out, HF.out]; rfl, Hbw.out⟩
                · go_wp2_with (go_at_call 69; refine (f69_any _ _).mono ?_; rintro e w' ⟨rfl, rfl⟩; simp only [hz])
                  exact ⟨⟨k + 1, by omega, by go_num, Hb.out, by rw [HT.out, hz]⟩, by simp [intOf]; omega⟩
              · have HZ : Hid ((zs : List Int).all isNum = true) := Lib.hid (by have := Hall.out; rwa [List.take_of_length_le (by omega)] at this)
                go_wp2_with fail
                go_loopw [5] (fun i wr => ∃ k : Nat, k ≤ ([] : List Ex).length ∧ i = .int .i64 k ∧ Below (w.heap.size + 1) W0 wr ∧ (([] : List Ex).take k).all formB = true) (fun i _ => ([] : List Ex).length - (intOf i).toNat)
                case atStart => exact ⟨0, by omega, rfl, Hb.out, by simp⟩
                case round =>
                  clear c0 c1 c2 c3 c4 Hb Hbw
                  obtain ⟨k, hk, rfl, hb, hall⟩ := hrel
                  obtain ⟨⟨c0, c1, c2, c3, c4⟩, hbw⟩ := HC.out _ hb
                  have Hall2 := Lib.hid hall; clear hall
                  have Hb := Lib.hid hb; clear hb
                  have Hbw := Lib.hid hbw; clear hbw
                  by_cases hlt : k < ([] : List Ex).length
                  · exact absurd hlt (by simp)
                  · go_wp2_with fail
                    go_ret
                    refine ⟨?_, Hbw.out⟩
                    have := Hall2.out
                    rw [List.take_of_length_le (by omega)] at this
                    rw [HFE.out, HN.out, HZ.out, formBL_eq, this]; rfl
          | cons c cr =>
            have HN : Hid (nodeB (.mk 2 (c :: cr) 0 zs []) = false) := Lib.hid (by first | (simp [nodeB_mk, *]; done) | simp [nodeB_mk, isNam_nil, *])
            go_enter Tryd.func37, Tryd.ntmps37
            go_wp2_with (first | (go_at_call 69; refine (f69_any _ _).mono ?_; rintro e w' ⟨rfl, rfl⟩; simp only [hq]) | (go_at_call 69; refine (f69_any _ _).mono ?_; rintro e w' ⟨rfl, rfl⟩; simp only [hz]) | (go_at_call 68; refine (f68_any _ _).mono ?_; rintro e w' ⟨rfl, rfl⟩; simp only [hm0]))
            go_ret
            exact ⟨by rw [HFE.out, HN.out]; rfl, HW.out _⟩
        · skip
          have HN : Hid (nodeB (.mk 2 nm n zs []) = false) := Lib.hid (by first | (simp [nodeB_mk, *]; done) | simp [nodeB_mk, isNam_nil, *])
          go_enter Tryd.func37, Tryd.ntmps37
          go_wp2_with (first | (go_at_call 69; refine (f69_any _ _).mono ?_; rintro e w' ⟨rfl, rfl⟩; simp only [hq]) | (go_at_call 69; refine (f69_any _ _).mono ?_; rintro e w' ⟨rfl, rfl⟩; simp only [hz]) | (go_at_call 68; refine (f68_any _ _).mono ?_; rintro e w' ⟨rfl, rfl⟩; simp only [hm0]))
          go_ret
          exact ⟨by rw [HFE.out, HN.out]; rfl, HW.out _⟩
    · skip
      by_cases hk3 : k = 3
      · subst hk3
        cases zs with
        | cons z zs =>
          have hpos : (0 : Int) < ln := by simp at hln; omega
          have HN : Hid (nodeB (.mk 3 nm n (z :: zs) ag) = false) := Lib.hid (by first | (simp [nodeB_mk, *]; done) | simp [nodeB_mk, isNam_nil, *])
          go_enter Tryd.func37, Tryd.ntmps37
          go_wp2_with (first | (go_at_call 69; refine (f69_any _ _).mono ?_; rintro e w' ⟨rfl, rfl⟩; simp only [hq]) | (go_at_call 69; refine (f69_any _ _).mono ?_; rintro e w' ⟨rfl, rfl⟩; simp only [hz]) | (go_at_call 68; refine (f68_any _ _).mono ?_; rintro e w' ⟨rfl, rfl⟩; simp only [hm0]))
          go_ret
          exact ⟨by rw [HFE.out, HN.out]; rfl, HW.out _⟩
        | nil =>
          simp only [List.length_nil] at hln; subst hln
          by_cases hn : n = 0
          · subst hn
            have hq : isNum 0 = true := by decide
            cases nm with
            | nil =>
              have HN : Hid (nodeB (.mk 3 [] 0 [] ag) = false) := Lib.hid (by first | (simp [nodeB_mk, *]; done) | simp [nodeB_mk, isNam_nil, *])
              go_enter Tryd.func37, Tryd.ntmps37
              go_wp2_with (first | (go_at_call 69; refine (f69_any _ _).mono ?_; rintro e w' ⟨rfl, rfl⟩; simp only [hq]) | (go_at_call 69; refine (f69_any _ _).mono ?_; rintro e w' ⟨rfl, rfl⟩; simp only [hz]) | (go_at_call 68; refine (f68_any _ _).mono ?_; rintro e w' ⟨rfl, rfl⟩; simp only [hm0]))
              go_ret
              exact ⟨by rw [HFE.out, HN.out]; rfl, HW.out _⟩
            | cons c cr =>
              cases hm0 : isNam (c :: cr)
              · skip
                have HN : Hid (nodeB (.mk 3 (c :: cr) 0 [] ag) = false) := Lib.hid (by first | (simp [nodeB_mk, *]; done) | simp [nodeB_mk, isNam_nil, *])
                go_enter Tryd.func37, Tryd.ntmps37
                go_wp2_with (first | (go_at_call 69; refine (f69_any _ _).mono ?_; rintro e w' ⟨rfl, rfl⟩; simp only [hq]) | (go_at_call 69; refine (f69_any _ _).mono ?_; rintro e w' ⟨rfl, rfl⟩; simp only [hz]) | (go_at_call 68; refine (f68_any _ _).mono ?_; rintro e w' ⟨rfl, rfl⟩; simp only [hm0]))
                go_ret
                exact ⟨by rw [HFE.out, HN.out]; rfl, HW.out _⟩
              · skip
                have HN : Hid (nodeB (.mk 3 (c :: cr) 0 [] ag) = [].all isNum) := Lib.hid (by simp [nodeB_mk, *])
                go_enter Tryd.func37, Tryd.ntmps37
                go_wp2_with (first | (go_at_call 69; refine (f69_any _ _).mono ?_; rintro e w' ⟨rfl, rfl⟩; simp only [hq]) | (go_at_call 69; refine (f69_any _ _).mono ?_; rintro e w' ⟨rfl, rfl⟩; simp only [hz]) | (go_at_call 68; refine (f68_any _ _).mono ?_; rintro e w' ⟨rfl, rfl⟩; simp only [hm0]))
                generalize w.alloc _ = W0 at *
                go_loopw [4] (fun i wr => ∃ k : Nat, k ≤ ([] : List Int).length ∧ i = .int .i64 k ∧ Below (w.heap.size + 1) W0 wr ∧ (([] : List Int).take k).all isNum = true) (fun i _ => ([] : List Int).length - (intOf i).toNat)
                case atStart => exact ⟨0, by omega, rfl, HB0.out, by simp⟩
                case round =>
                  obtain ⟨k, hk, rfl, hb, hall⟩ := hrel
                  obtain ⟨⟨c0, c1, c2, c3, c4⟩, hbw⟩ := HC.out _ hb
                  have Hall := Lib.hid hall; clear hall
                  have Hb := Lib.hid hb; clear hb
                  have Hbw := Lib.hid hbw; clear hbw
                  by_cases hlt : k < ([] : List Int).length
                  · exact absurd hlt (by simp)
                  · have HZ : Hid (([] : List Int).all isNum = true) := Lib.hid (by have := Hall.out; rwa [List.take_of_length_le (by omega)] at this)
                    go_wp2_with fail
                    go_loopw [5] (fun i wr => ∃ k : Nat, k ≤ (ag : List Ex).length ∧ i = .int .i64 k ∧ Below (w.heap.size + 1) W0 wr ∧ ((ag : List Ex).take k).all formB = true) (fun i _ => (ag : List Ex).length - (intOf i).toNat)
                    case atStart => exact ⟨0, by omega, rfl, Hb.out, by simp⟩
                    case round =>
                      clear c0 c1 c2 c3 c4 Hb Hbw
                      obtain ⟨k, hk, rfl, hb, hall⟩ := hrel
                      obtain ⟨⟨c0, c1, c2, c3, c4⟩, hbw⟩ := HC.out _ hb
                      have Hall2 := Lib.hid hall; clear hall
                      have Hb := Lib.hid hb; clear hb
                      have Hbw := Lib.hid hbw; clear hbw
                      by_cases hlt : k < (ag : List Ex).length
                      · obtain ⟨b, o, rfl, _, ka, kc, kaa, kac, hxk, k0, k1, k2, k3, k4⟩ := RArgs_get (RArgs_later HA.out Hbw.out (Nat.le_refl _)) k hlt
                        have hgl := nodesL_get (ag : List Ex) k hlt
                        have HT : Hid (((ag : List Ex).take (k + 1)).all formB = formB (ag : List Ex)[k]) := Lib.hid (by
                          rw [List.take_succ_eq_append_getElem hlt, List.all_append, Hall2.out]; simp)
                        have H := Lib.hid (IH.out (ag : List Ex)[k] _ wr (by omega) (XV_later hxk (Below.refl _ _) Hbw.out.size)); clear hxk
                        have hwb : w.heap.size + 1 ≤ wr.heap.size := World.block_lt_of_cell? wr _ c0
                        go_wp2_with fail
                        refine H.out.mono ?_
                        rintro e w3 ⟨rfl, hb3⟩
                        have Hb3 := Lib.hid (Hb.out.trans (hb3.mono hwb))
                        clear hb3
                        have Hbw3 := Lib.hid (HC.out _ Hb3.out).2
                        cases hz : formB (ag : List Ex)[k]
                        · have HF : Hid (formBL (ag : List Ex) = false) := Lib.hid (by
                            rw [formBL_eq, Bool.eq_false_iff]; intro h
                            rw [List.all_eq_true] at h
                            exact absurd (h _ (List.getElem_mem hlt)) (by rw [hz]; decide))
                          go_wp2_with fail
                          go_ret
                          exact ⟨by rw [HFE.out, HF.out, Bool.and_false]; rfl, Hbw3.out⟩
                        · go_wp2_with fail
                          exact ⟨⟨k + 1, by omega, by go_num, Hb3.out, by rw [HT.out, hz]⟩, by simp [intOf]; omega⟩
                      · go_wp2_with fail
                        go_ret
                        refine ⟨?_, Hbw.out⟩
                        have := Hall2.out
                        rw [List.take_of_length_le (by omega)] at this
                        rw [HFE.out, HN.out, HZ.out, formBL_eq, this]; rfl
          · skip
            have HN : Hid (nodeB (.mk 3 nm n [] ag) = false) := Lib.hid (by first | (simp [nodeB_mk, *]; done) | simp [nodeB_mk, isNam_nil, *])
            go_enter Tryd.func37, Tryd.ntmps37
            go_wp2_with (first | (go_at_call 69; refine (f69_any _ _).mono ?_; rintro e w' ⟨rfl, rfl⟩; simp only [hq]) | (go_at_call 69; refine (f69_any _ _).mono ?_; rintro e w' ⟨rfl, rfl⟩; simp only [hz]) | (go_at_call 68; refine (f68_any _ _).mono ?_; rintro e w' ⟨rfl, rfl⟩; simp only [hm0]))
            go_ret
            exact ⟨by rw [HFE.out, HN.out]; rfl, HW.out _⟩
      · skip
        by_cases hk4 : k = 4
        · subst hk4
          cases ag with
          | cons y ys =>
            have hpos : (0 : Int) < al := by simp at hal; omega
            have HN : Hid (nodeB (.mk 4 nm n zs (y :: ys)) = false) := Lib.hid (by first | (simp [nodeB_mk, *]; done) | simp [nodeB_mk, isNam_nil, *])
            go_enter Tryd.func37, Tryd.ntmps37
            go_wp2_with (first | (go_at_call 69; refine (f69_any _ _).mono ?_; rintro e w' ⟨rfl, rfl⟩; simp only [hq]) | (go_at_call 69; refine (f69_any _ _).mono ?_; rintro e w' ⟨rfl, rfl⟩; simp only [hz]) | (go_at_call 68; refine (f68_any _ _).mono ?_; rintro e w' ⟨rfl, rfl⟩; simp only [hm0]))
            go_ret
            exact ⟨by rw [HFE.out, HN.out]; rfl, HW.out _⟩
          | nil =>
            simp only [List.length_nil] at hal; subst hal
            cases zs with
            | cons z zs =>
              have hpos : (0 : Int) < ln := by simp at hln; omega
              have HN : Hid (nodeB (.mk 4 nm n (z :: zs) []) = false) := Lib.hid (by first | (simp [nodeB_mk, *]; done) | simp [nodeB_mk, isNam_nil, *])
              go_enter Tryd.func37, Tryd.ntmps37
              go_wp2_with (first | (go_at_call 69; refine (f69_any _ _).mono ?_; rintro e w' ⟨rfl, rfl⟩; simp only [hq]) | (go_at_call 69; refine (f69_any _ _).mono ?_; rintro e w' ⟨rfl, rfl⟩; simp only [hz]) | (go_at_call 68; refine (f68_any _ _).mono ?_; rintro e w' ⟨rfl, rfl⟩; simp only [hm0]))
              go_ret
              exact ⟨by rw [HFE.out, HN.out]; rfl, HW.out _⟩
            | nil =>
              simp only [List.length_nil] at hln; subst hln
              by_cases hn : n = 0
              · subst hn
                have hq : isNum 0 = true := by decide
                cases nm with
                | nil =>
                  have HN : Hid (nodeB (.mk 4 [] 0 [] []) = false) := Lib.hid (by first | (simp [nodeB_mk, *]; done) | simp [nodeB_mk, isNam_nil, *])
                  go_enter Tryd.func37, Tryd.ntmps37
                  go_wp2_with (first | (go_at_call 69; refine (f69_any _ _).mono ?_; rintro e w' ⟨rfl, rfl⟩; simp only [hq]) | (go_at_call 69; refine (f69_any _ _).mono ?_; rintro e w' ⟨rfl, rfl⟩; simp only [hz]) | (go_at_call 68; refine (f68_any _ _).mono ?_; rintro e w' ⟨rfl, rfl⟩; simp only [hm0]))
                  go_ret
                  exact ⟨by rw [HFE.out, HN.out]; rfl, HW.out _⟩
                | cons c cr =>
                  cases hm0 : isNam (c :: cr)
                  · skip
                    have HN : Hid (nodeB (.mk 4 (c :: cr) 0 [] []) = false) := Lib.hid (by first | (simp [nodeB_mk, *]; done) | simp [nodeB_mk, isNam_nil, *])
                    go_enter Tryd.func37, Tryd.ntmps37
                    go_wp2_with (first | (go_at_call 69; refine (f69_any _ _).mono ?_; rintro e w' ⟨rfl, rfl⟩; simp only [hq]) | (go_at_call 69; refine (f69_any _ _).mono ?_; rintro e w' ⟨rfl, rfl⟩; simp only [hz]) | (go_at_call 68; refine (f68_any _ _).mono ?_; rintro e w' ⟨rfl, rfl⟩; simp only [hm0]))
                    go_ret
                    exact ⟨by rw [HFE.out, HN.out]; rfl, HW.out _⟩
                  · skip
                    have HN : Hid (nodeB (.mk 4 (c :: cr) 0 [] []) = [].all isNum) := Lib.hid (by simp [nodeB_mk, *])
                    go_enter Tryd.func37, Tryd.ntmps37
                    go_wp2_with (first | (go_at_call 69; refine (f69_any _ _).mono ?_; rintro e w' ⟨rfl, rfl⟩; simp only [hq]) | (go_at_call 69; refine (f69_any _ _).mono ?_; rintro e w' ⟨rfl, rfl⟩; simp only [hz]) | (go_at_call 68; refine (f68_any _ _).mono ?_; rintro e w' ⟨rfl, rfl⟩; simp only [hm0]))
                    generalize w.alloc _ = W0 at *
                    go_loopw [4] (fun i wr => ∃ k : Nat, k ≤ ([] : List Int).length ∧ i = .int .i64 k ∧ Below (w.heap.size + 1) W0 wr ∧ (([] : List Int).take k).all isNum = true) (fun i _ => ([] : List Int).length - (intOf i).toNat)
                    case atStart => exact ⟨0, by omega, rfl, HB0.out, by simp⟩
                    case round =>
                      obtain ⟨k, hk, rfl, hb, hall⟩ := hrel
                      obtain ⟨⟨c0, c1, c2, c3, c4⟩, hbw⟩ := HC.out _ hb
                      have Hall := Lib.hid hall; clear hall
                      have Hb := Lib.hid hb; clear hb
                      have Hbw := Lib.hid hbw; clear hbw
                      by_cases hlt : k < ([] : List Int).length
                      · exact absurd hlt (by simp)
                      · have HZ : Hid (([] : List Int).all isNum = true) := Lib.hid (by have := Hall.out; rwa [List.take_of_length_le (by omega)] at this)
                        go_wp2_with fail
                        go_loopw [5] (fun i wr => ∃ k : Nat, k ≤ ([] : List Ex).length ∧ i = .int .i64 k ∧ Below (w.heap.size + 1) W0 wr ∧ (([] : List Ex).take k).all formB = true) (fun i _ => ([] : List Ex).length - (intOf i).toNat)
                        case atStart => exact ⟨0, by omega, rfl, Hb.out, by simp⟩
                        case round =>
                          clear c0 c1 c2 c3 c4 Hb Hbw
                          obtain ⟨k, hk, rfl, hb, hall⟩ := hrel
                          obtain ⟨⟨c0, c1, c2, c3, c4⟩, hbw⟩ := HC.out _ hb
                          have Hall2 := Lib.hid hall; clear hall
                          have Hb := Lib.hid hb; clear hb
                          have Hbw := Lib.hid hbw; clear hbw
                          by_cases hlt : k < ([] : List Ex).length
                          · exact absurd hlt (by simp)
                          · go_wp2_with fail
                            go_ret
                            refine ⟨?_, Hbw.out⟩
                            have := Hall2.out
                            rw [List.take_of_length_le (by omega)] at this
                            rw [HFE.out, HN.out, HZ.out, formBL_eq, this]; rfl
              · skip
                have HN : Hid (nodeB (.mk 4 nm n [] []) = false) := Lib.hid (by first | (simp [nodeB_mk, *]; done) | simp [nodeB_mk, isNam_nil, *])
                go_enter Tryd.func37, Tryd.ntmps37
                go_wp2_with (first | (go_at_call 69; refine (f69_any _ _).mono ?_; rintro e w' ⟨rfl, rfl⟩; simp only [hq]) | (go_at_call 69; refine (f69_any _ _).mono ?_; rintro e w' ⟨rfl, rfl⟩; simp only [hz]) | (go_at_call 68; refine (f68_any _ _).mono ?_; rintro e w' ⟨rfl, rfl⟩; simp only [hm0]))
                go_ret
                exact ⟨by rw [HFE.out, HN.out]; rfl, HW.out _⟩
        · skip
          by_cases hlo : k < 1
          · skip
            have HN : Hid (nodeB (.mk k nm n zs ag) = false) := Lib.hid (by first | (simp [nodeB_mk, *]; done) | simp [nodeB_mk, isNam_nil, *])
            go_enter Tryd.func37, Tryd.ntmps37
            go_wp2_with (first | (go_at_call 69; refine (f69_any _ _).mono ?_; rintro e w' ⟨rfl, rfl⟩; simp only [hq]) | (go_at_call 69; refine (f69_any _ _).mono ?_; rintro e w' ⟨rfl, rfl⟩; simp only [hz]) | (go_at_call 68; refine (f68_any _ _).mono ?_; rintro e w' ⟨rfl, rfl⟩; simp only [hm0]))
            go_ret
            exact ⟨by rw [HFE.out, HN.out]; rfl, HW.out _⟩
          · have hhi : 4 < k := by omega
            have HN : Hid (nodeB (.mk k nm n zs ag) = false) := Lib.hid (by first | (simp [nodeB_mk, *]; done) | simp [nodeB_mk, isNam_nil, *])
            go_enter Tryd.func37, Tryd.ntmps37
            go_wp2_with (first | (go_at_call 69; refine (f69_any _ _).mono ?_; rintro e w' ⟨rfl, rfl⟩; simp only [hq]) | (go_at_call 69; refine (f69_any _ _).mono ?_; rintro e w' ⟨rfl, rfl⟩; simp only [hz]) | (go_at_call 68; refine (f68_any _ _).mono ?_; rintro e w' ⟨rfl, rfl⟩; simp only [hm0]))
            go_ret
            exact ⟨by rw [HFE.out, HN.out]; rfl, HW.out _⟩
theorem f37_any : ∀ m, RFormSays m
  | 0 => fun x _ _ h => by have := nodes_pos x; omega
  | m + 1 => f37_step m (f37_any m)
end Go.Proofs.YtcaaadhhaanbcaaDoor
