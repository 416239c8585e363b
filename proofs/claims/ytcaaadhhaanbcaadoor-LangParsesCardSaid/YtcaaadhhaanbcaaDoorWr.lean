/- The walks of Check and Format, and of their recursive parts. -/
import Derived.Test.YtcaaadhhaanbcaaDoorWq
import Derived.Test.YtcaaadhhaanbcaaDoorWp
namespace Go.Proofs.YtcaaadhhaanbcaaDoor
open Go.RowKit

mutual
def formB : Ex → Bool
  | .mk k nm n zs ag => nodeB (.mk k nm n zs ag) && formBL ag
def formBL : List Ex → Bool
  | [] => true
  | x :: xs => formB x && formBL xs
end
theorem formB_eq (x : Ex) : formB x = (nodeB x && formBL x.args) := by cases x; simp [formB, Ex.args]
theorem formBL_eq (xs : List Ex) : formBL xs = xs.all formB := by
  induction xs with
  | nil => rfl
  | cons a l ih => simp [formBL, ih]
mutual
def depthX : Ex → Nat
  | .mk _ _ _ _ ag => depthL ag + 1
def depthL : List Ex → Nat
  | [] => 0
  | x :: xs => max (depthX x) (depthL xs)
end
theorem depthX_eq (x : Ex) : depthX x = depthL x.args + 1 := by cases x; simp [depthX, Ex.args]
mutual
def listsB : Ex → Bool
  | .mk _ _ _ zs ag => decide (zs.length ≤ 4096) && listsL ag
def listsL : List Ex → Bool
  | [] => true
  | x :: xs => listsB x && listsL xs
end
theorem listsB_eq (x : Ex) : listsB x = (decide (x.list.length ≤ 4096) && listsL x.args) := by cases x; simp [listsB, Ex.args, Ex.list]; rfl
theorem listsL_eq (xs : List Ex) : listsL xs = xs.all listsB := by
  induction xs with
  | nil => rfl
  | cons a l ih => simp [listsL, ih]
theorem depthL_snoc (xs : List Ex) (x : Ex) : depthL (xs ++ [x]) = max (depthL xs) (depthX x) := by
  induction xs with
  | nil => simp [depthL]
  | cons a l ih => simp only [List.cons_append, depthL, ih]; omega
theorem depthL_take (xs : List Ex) (i : Nat) (h : i < xs.length) : depthL (xs.take (i + 1)) = max (depthL (xs.take i)) (depthX xs[i]) := by
  rw [List.take_succ_eq_append_getElem h, depthL_snoc]
mutual
theorem depthX_le : ∀ x : Ex, depthX x ≤ nodes x
  | .mk _ _ _ _ ag => by simp only [depthX, nodes]; have := depthL_le ag; omega
theorem depthL_le : ∀ xs : List Ex, depthL xs ≤ nodesL xs
  | [] => by simp [depthL]
  | x :: xs => by simp only [depthL, nodesL]; have := depthX_le x; have := depthL_le xs; omega
end

def FormSays (m : Nat) : Prop := ∀ (x : Ex) (cs : Array Value) (w : World), nodes x ≤ m → XV (Lt w.heap.size) w x cs →
    Calls Tryd.prog 33 #[.agg cs] w fun e w' => e = .returned (.bool (formB x)) ∧ Below w.heap.size w w'

set_option maxRecDepth 100000 in
set_option maxHeartbeats 4000000 in
theorem f33_step (m : Nat) (ih : FormSays m) : FormSays (m + 1) := by
  intro x cs w hm hx
  have hnot : ∀ (x : Bool) (w : World), (Op.unary .not (.bool x)).run Tryd.prog w = .ok (.bool (!x)) w := fun _ _ => rfl
  obtain ⟨la, lc, a, cap, rfl, _, ha, hlc, hlc2, hcap, hcap2⟩ := XV_five hx
  have IH := Lib.hid ih; clear ih
  have hne := nodes_eq x
  have HFE := Lib.hid (formB_eq x)
  have HA := Lib.hid ha; clear ha
  have hW : Below w.heap.size w (w.alloc (Obj.cells #[Value.int IntKind.i64 x.kind, strV x.name, Value.int IntKind.i64 x.n, Value.slice la x.list.length lc, Value.slice a x.args.length cap] 26)) := (Below.refl _ _).alloc (Nat.le_refl _) _
  have h61 := f61_any x _ (w.alloc (Obj.cells #[Value.int IntKind.i64 x.kind, strV x.name, Value.int IntKind.i64 x.n, Value.slice la x.list.length lc, Value.slice a x.args.length cap] 26)) (XV_later hx hW (by simp))
  clear hx
  have HW := Lib.hid hW; clear hW
  have H4 : Hid (∀ w', Below (w.heap.size + 1) (w.alloc (Obj.cells #[Value.int IntKind.i64 x.kind, strV x.name, Value.int IntKind.i64 x.n, Value.slice la x.list.length lc, Value.slice a x.args.length cap] 26)) w' → w'.cell? ⟨w.heap.size, 4, none⟩ = some (Value.slice a x.args.length cap)) := Lib.hid (fun w' hb => by
    rw [hb.cell (by simp), Lib.cell_of_heap (heap_alloc_new w _)]; rfl)
  cases hn : nodeB x
  · go_enter Tryd.func33, Tryd.ntmps33
    go_wp2_with fail
    refine h61.mono ?_
    rintro e w1 ⟨rfl, hb1⟩
    rw [hn]
    go_wp2_with fail
    go_ret
    exact ⟨by rw [HFE.out, hn]; rfl, HW.out.trans (hb1.mono (by simp))⟩
  · go_enter Tryd.func33, Tryd.ntmps33
    go_wp2_with fail
    refine h61.mono ?_
    rintro e w1 ⟨rfl, hb1⟩
    rw [hn]
    have HB1 := Lib.hid (HW.out.trans (hb1.mono (by simp)))
    have c4 := H4.out w1 (by simpa using hb1)
    clear hb1 h61
    go_wp2_with fail
    go_loopw [11] (fun i wr => ∃ k : Nat, k ≤ x.args.length ∧ i = .int .i64 k ∧ Below w.heap.size w wr ∧ (x.args.take k).all formB = true) (fun i _ => x.args.length - (intOf i).toNat)
    case atStart => exact ⟨0, by omega, rfl, HB1.out, by simp⟩
    case round =>
      obtain ⟨k, hk, rfl, hb, hall⟩ := hrel
      have Hall := Lib.hid hall; clear hall
      by_cases hlt : k < x.args.length
      · obtain ⟨b, o, rfl, _, ka, kc, kaa, kac, hxk, c0, c1, c2, c3, c4⟩ := RArgs_get (RArgs_later HA.out hb (Nat.le_refl _)) k hlt
        have hgl := nodesL_get x.args k hlt
        have Hxk := Lib.hid hxk; clear hxk
        have Hb := Lib.hid hb; clear hb
        have HT : Hid ((x.args.take (k + 1)).all formB = formB x.args[k]) := Lib.hid (by
          rw [List.take_succ_eq_append_getElem hlt, List.all_append, Hall.out]; simp)
        go_wp2_with fail
        refine (IH.out x.args[k] _ _ (by omega) (XV_later Hxk.out ((Below.refl _ _).alloc Hb.out.size _) (by simp; have := Hb.out.size; omega))).mono ?_
        rintro e w3 ⟨rfl, hb3⟩
        have Hb3 := Lib.hid (((Hb.out.alloc Hb.out.size _)).trans (hb3.mono (by simp; have := Hb.out.size; omega)))
        clear hb3
        cases hz : formB x.args[k]
        · go_wp2_with fail
          go_ret
          refine ⟨?_, Hb3.out⟩
          have : formBL x.args = false := by
            rw [formBL_eq, Bool.eq_false_iff]; intro h
            rw [List.all_eq_true] at h
            exact absurd (h _ (List.getElem_mem hlt)) (by rw [hz]; decide)
          rw [HFE.out, this, Bool.and_false]; rfl
        · go_wp2_with fail
          go_roundw
          case rel => exact ⟨k + 1, by omega, by go_num, Hb3.out, by rw [HT.out, hz]⟩
          case measure => simp [intOf]; omega
      · have Hb := Lib.hid hb; clear hb
        go_wp2_with fail
        go_ret
        refine ⟨?_, Hb.out⟩
        rw [HFE.out, formBL_eq, hn, Bool.true_and]
        have := Hall.out
        rw [List.take_of_length_le (by omega)] at this
        rw [this]; rfl
theorem f33_any : ∀ m, FormSays m
  | 0 => fun x _ _ h => by have := nodes_pos x; omega
  | m + 1 => f33_step m (f33_any m)

def MeasureSays (m : Nat) : Prop := ∀ (x : Ex) (cs : Array Value) (w : World), nodes x ≤ m → nodes x ≤ 4611686018427387904 → XV (Lt w.heap.size) w x cs →
    Calls Tryd.prog 34 #[.agg cs] w fun e w' => e = .returned (.tuple #[.int .i64 (depthX x), .bool (listsB x)]) ∧ Below w.heap.size w w'

set_option maxRecDepth 100000 in
set_option maxHeartbeats 4000000 in
theorem f34_step (m : Nat) (ih : MeasureSays m) : MeasureSays (m + 1) := by
  intro x cs w hm hbig hx
  obtain ⟨la, lc, a, cap, rfl, _, ha, hlc, hlc2, hcap, hcap2⟩ := XV_five hx
  clear hx
  have IH := Lib.hid ih; clear ih
  have hne := nodes_eq x
  have HDE := Lib.hid (depthX_eq x)
  have HLE := Lib.hid (listsB_eq x)
  have hdl := depthL_le x.args
  have HA := Lib.hid ha; clear ha
  have HW : Hid (∀ o, Below w.heap.size w (w.alloc o)) := Lib.hid (fun o => (Below.refl _ _).alloc (Nat.le_refl _) o)
  go_enter Tryd.func34, Tryd.ntmps34
  go_wp2_with fail
  go_loopw [2, 3, 15] (fun d ok i wr => ∃ k : Nat, k ≤ x.args.length ∧ i = .int .i64 k ∧ Below w.heap.size w wr ∧ d = .int .i64 (depthL (x.args.take k)) ∧ ok = .bool (decide (x.list.length ≤ 4096) && (x.args.take k).all listsB)) (fun _ _ i _ => x.args.length - (intOf i).toNat)
  case atStart => exact ⟨0, by omega, rfl, HW.out _, by simp [depthL], by simp; omega⟩
  case round =>
    obtain ⟨k, hk, rfl, hb, rfl, rfl⟩ := hrel
    by_cases hlt : k < x.args.length
    · obtain ⟨b, o, rfl, _, ka, kc, kaa, kac, hxk, c0, c1, c2, c3, c4⟩ := RArgs_get (RArgs_later HA.out hb (Nat.le_refl _)) k hlt
      have hgl := nodesL_get x.args k hlt
      have Hxk := Lib.hid hxk; clear hxk
      have Hb := Lib.hid hb; clear hb
      have HT : Hid ((x.args.take (k + 1)).all listsB = ((x.args.take k).all listsB && listsB x.args[k])) := Lib.hid (by
        rw [List.take_succ_eq_append_getElem hlt, List.all_append]; simp)
      have HDT := Lib.hid (depthL_take x.args k hlt)
      generalize hok : (decide (x.list.length ≤ 4096) && (x.args.take k).all listsB) = ok
      have Hok := Lib.hid hok; clear hok
      go_wp2_with fail
      refine (IH.out x.args[k] _ _ (by omega) (by omega) (XV_later Hxk.out ((Below.refl _ _).alloc Hb.out.size _) (by simp; have := Hb.out.size; omega))).mono ?_
      rintro e w3 ⟨rfl, hb3⟩
      have Hb3 := Lib.hid (((Hb.out.alloc Hb.out.size _)).trans (hb3.mono (by simp; have := Hb.out.size; omega)))
      clear hb3
      cases ok
      · go_wp2_with fail
        refine ⟨⟨k + 1, by omega, by go_num, Hb3.out, by rw [HDT.out]; go_num, ?_⟩, by simp [intOf]; omega⟩
        rw [HT.out, ← Bool.and_assoc, Hok.out]; rfl
      · go_wp2_with fail
        refine ⟨⟨k + 1, by omega, by go_num, Hb3.out, by rw [HDT.out]; go_num, ?_⟩, by simp [intOf]; omega⟩
        rw [HT.out, ← Bool.and_assoc, Hok.out]; rfl
    · have hdk : depthL (x.args.take k) = depthL x.args := by rw [List.take_of_length_le (by omega)]
      have HK : Hid ((decide (x.list.length ≤ 4096) && (x.args.take k).all listsB) = listsB x) := Lib.hid (by rw [List.take_of_length_le (by omega), HLE.out, listsL_eq])
      rw [HK.out, hdk]
      have Hb := Lib.hid hb; clear hb
      go_wp2_with fail
      refine bodyPost_ret (v := .tuple #[.int .i64 (depthX x), .bool (listsB x)]) ?_ rfl ⟨rfl, Hb.out⟩
      simp [results, Tryd.results34, go_sem, HDE.out]
theorem f34_any : ∀ m, MeasureSays m
  | 0 => fun x _ _ h => by have := nodes_pos x; omega
  | m + 1 => f34_step m (f34_any m)
end Go.Proofs.YtcaaadhhaanbcaaDoor
