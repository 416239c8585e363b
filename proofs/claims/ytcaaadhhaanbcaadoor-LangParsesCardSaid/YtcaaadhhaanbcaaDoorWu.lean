/- The walks of the reference's long, Depth and Text. -/
import Derived.Test.YtcaaadhhaanbcaaDoorWy
namespace Go.Proofs.YtcaaadhhaanbcaaDoor
open Go.RowKit

def LongSays (m : Nat) : Prop := ∀ (x : Ex) (cs : Array Value) (w : World), nodes x ≤ m → XV (Lt w.heap.size) w x cs →
    Calls Tryd.prog 38 #[.agg cs] w fun e w' => e = .returned (.bool (!listsB x)) ∧ Below w.heap.size w w'

set_option maxRecDepth 100000 in
set_option maxHeartbeats 8000000 in
theorem f38_step (m : Nat) (ih : LongSays m) : LongSays (m + 1) := by
  intro x cs w hm hx
  obtain ⟨la, lc, a, cap, rfl, -, ha, hlc, hlc2, hcap, hcap2⟩ := XV_five hx
  clear hx
  have IH := Lib.hid ih; clear ih
  have hne := nodes_eq x
  have HLE := Lib.hid (listsB_eq x)
  have HA := Lib.hid ha; clear ha
  have HW : Hid (∀ o, Below w.heap.size w (w.alloc o)) := Lib.hid (fun o => (Below.refl _ _).alloc (Nat.le_refl _) o)
  have HB0 : Hid (Below (w.heap.size + 1) (w.alloc (Obj.cells #[Value.int IntKind.i64 x.kind, strV x.name, Value.int IntKind.i64 x.n, Value.slice la x.list.length lc, Value.slice a x.args.length cap] 26)) (w.alloc (Obj.cells #[Value.int IntKind.i64 x.kind, strV x.name, Value.int IntKind.i64 x.n, Value.slice la x.list.length lc, Value.slice a x.args.length cap] 26))) := Lib.hid (Below.refl _ _)
  have HC : Hid (∀ w', Below (w.heap.size + 1) (w.alloc (Obj.cells #[Value.int IntKind.i64 x.kind, strV x.name, Value.int IntKind.i64 x.n, Value.slice la x.list.length lc, Value.slice a x.args.length cap] 26)) w' → w'.cell? ⟨w.heap.size, 4, none⟩ = some (.slice a x.args.length cap) ∧ Below w.heap.size w w') := Lib.hid (fun w' hb => by
    refine ⟨?_, ((Below.refl _ _).alloc (Nat.le_refl _) _).trans (hb.mono (by omega))⟩; rw [hb.cell (by simp), Lib.cell_of_heap (heap_alloc_new w _)]; rfl)
  by_cases h4 : (4096 : Int) < x.list.length
  · have HF : Hid (listsB x = false) := Lib.hid (by rw [HLE.out, show decide (x.list.length ≤ 4096) = false by simp; omega]; rfl)
    go_enter Tryd.func38, Tryd.ntmps38
    go_wp2_with fail
    go_ret
    exact ⟨by rw [HF.out]; rfl, HW.out _⟩
  · have HF : Hid (listsB x = x.args.all listsB) := Lib.hid (by rw [HLE.out, show decide (x.list.length ≤ 4096) = true by simp; omega, Bool.true_and, listsL_eq])
    go_enter Tryd.func38, Tryd.ntmps38
    go_wp2_with fail
    generalize w.alloc _ = W0 at *
    go_loopw [3] (fun i wr => ∃ k : Nat, k ≤ x.args.length ∧ i = .int .i64 k ∧ Below (w.heap.size + 1) W0 wr ∧ (x.args.take k).all listsB = true) (fun i _ => x.args.length - (intOf i).toNat)
    case atStart => exact ⟨0, by omega, rfl, HB0.out, by simp⟩
    case round =>
      obtain ⟨k, hk, rfl, hb, hall⟩ := hrel
      obtain ⟨c4, hbw⟩ := HC.out _ hb
      have Hall2 := Lib.hid hall; clear hall
      have Hb := Lib.hid hb; clear hb
      have Hbw := Lib.hid hbw; clear hbw
      by_cases hlt : k < x.args.length
      · obtain ⟨b, o, rfl, _, ka, kc, kaa, kac, hxk, k0, k1, k2, k3, k4⟩ := RArgs_get (RArgs_later HA.out Hbw.out (Nat.le_refl _)) k hlt
        have hgl := nodesL_get x.args k hlt
        have HT : Hid ((x.args.take (k + 1)).all listsB = listsB x.args[k]) := Lib.hid (by
          rw [List.take_succ_eq_append_getElem hlt, List.all_append, Hall2.out]; simp)
        have H := Lib.hid (IH.out x.args[k] _ wr (by omega) (XV_later hxk (Below.refl _ _) Hbw.out.size)); clear hxk
        have hwb : w.heap.size + 1 ≤ wr.heap.size := World.block_lt_of_cell? wr _ c4
        go_wp2_with fail
        refine H.out.mono ?_
        rintro e w3 ⟨rfl, hb3⟩
        have Hb3 := Lib.hid (Hb.out.trans (hb3.mono hwb))
        clear hb3
        have Hbw3 := Lib.hid (HC.out _ Hb3.out).2
        cases hz : listsB x.args[k]
        · have HF2 : Hid (listsB x = false) := Lib.hid (by
            rw [HF.out, Bool.eq_false_iff]; intro h
            rw [List.all_eq_true] at h
            exact absurd (h _ (List.getElem_mem hlt)) (by rw [hz]; decide))
          go_wp2_with fail
          go_ret
          exact ⟨by rw [HF2.out]; rfl, Hbw3.out⟩
        · go_wp2_with fail
          exact ⟨⟨k + 1, by omega, by go_num, Hb3.out, by rw [HT.out, hz]⟩, by simp [intOf]; omega⟩
      · go_wp2_with fail
        go_ret
        refine ⟨?_, Hbw.out⟩
        have := Hall2.out
        rw [List.take_of_length_le (by omega)] at this
        rw [HF.out, this]; rfl
theorem f38_any : ∀ m, LongSays m
  | 0 => fun x _ _ h => by have := nodes_pos x; omega
  | m + 1 => f38_step m (f38_any m)

def DepthSays (m : Nat) : Prop := ∀ (x : Ex) (cs : Array Value) (w : World), nodes x ≤ m → nodes x ≤ 4611686018427387904 → XV (Lt w.heap.size) w x cs →
    Calls Tryd.prog 39 #[.agg cs] w fun e w' => e = .returned (.int .i64 (depthX x)) ∧ Below w.heap.size w w'

set_option maxRecDepth 100000 in
set_option maxHeartbeats 8000000 in
theorem f39_step (m : Nat) (ih : DepthSays m) : DepthSays (m + 1) := by
  intro x cs w hm hbig hx
  obtain ⟨la, lc, a, cap, rfl, -, ha, hlc, hlc2, hcap, hcap2⟩ := XV_five hx
  clear hx
  have IH := Lib.hid ih; clear ih
  have hne := nodes_eq x
  have HDE := Lib.hid (depthX_eq x)
  have hdl := depthL_le x.args
  have HA := Lib.hid ha; clear ha
  have HB0 : Hid (Below (w.heap.size + 1) (w.alloc (Obj.cells #[Value.int IntKind.i64 x.kind, strV x.name, Value.int IntKind.i64 x.n, Value.slice la x.list.length lc, Value.slice a x.args.length cap] 26)) (w.alloc (Obj.cells #[Value.int IntKind.i64 x.kind, strV x.name, Value.int IntKind.i64 x.n, Value.slice la x.list.length lc, Value.slice a x.args.length cap] 26))) := Lib.hid (Below.refl _ _)
  have HC : Hid (∀ w', Below (w.heap.size + 1) (w.alloc (Obj.cells #[Value.int IntKind.i64 x.kind, strV x.name, Value.int IntKind.i64 x.n, Value.slice la x.list.length lc, Value.slice a x.args.length cap] 26)) w' → w'.cell? ⟨w.heap.size, 4, none⟩ = some (.slice a x.args.length cap) ∧ Below w.heap.size w w') := Lib.hid (fun w' hb => by
    refine ⟨?_, ((Below.refl _ _).alloc (Nat.le_refl _) _).trans (hb.mono (by omega))⟩; rw [hb.cell (by simp), Lib.cell_of_heap (heap_alloc_new w _)]; rfl)
  go_enter Tryd.func39, Tryd.ntmps39
  go_wp2_with fail
  generalize w.alloc _ = W0 at *
  go_loopw [3, 4] (fun d i wr => ∃ k : Nat, k ≤ x.args.length ∧ i = .int .i64 k ∧ Below (w.heap.size + 1) W0 wr ∧ d = .int .i64 (depthL (x.args.take k))) (fun _ i _ => x.args.length - (intOf i).toNat)
  case atStart => exact ⟨0, by omega, rfl, HB0.out, by simp [depthL]⟩
  case round =>
    obtain ⟨k, hk, rfl, hb, rfl⟩ := hrel
    obtain ⟨c4, hbw⟩ := HC.out _ hb
    have Hb := Lib.hid hb; clear hb
    have Hbw := Lib.hid hbw; clear hbw
    by_cases hlt : k < x.args.length
    · obtain ⟨b, o, rfl, _, ka, kc, kaa, kac, hxk, k0, k1, k2, k3, k4⟩ := RArgs_get (RArgs_later HA.out Hbw.out (Nat.le_refl _)) k hlt
      have hgl := nodesL_get x.args k hlt
      have HDT := Lib.hid (depthL_take x.args k hlt)
      have H := Lib.hid (IH.out x.args[k] _ wr (by omega) (by omega) (XV_later hxk (Below.refl _ _) Hbw.out.size)); clear hxk
      have hwb : w.heap.size + 1 ≤ wr.heap.size := World.block_lt_of_cell? wr _ c4
      go_wp2_with fail
      refine H.out.mono ?_
      rintro e w3 ⟨rfl, hb3⟩
      have Hb3 := Lib.hid (Hb.out.trans (hb3.mono hwb))
      clear hb3
      go_wp2_with fail
      exact ⟨⟨k + 1, by omega, by go_num, Hb3.out, by rw [HDT.out]; go_num⟩, by simp [intOf]; omega⟩
    · have hdk : depthL (x.args.take k) = depthL x.args := by rw [List.take_of_length_le (by omega)]
      rw [hdk]
      go_wp2_with fail
      go_ret
      exact ⟨by rw [HDE.out]; rfl, Hbw.out⟩
theorem f39_any : ∀ m, DepthSays m
  | 0 => fun x _ _ h => by have := nodes_pos x; omega
  | m + 1 => f39_step m (f39_any m)
end Go.Proofs.YtcaaadhhaanbcaaDoor
