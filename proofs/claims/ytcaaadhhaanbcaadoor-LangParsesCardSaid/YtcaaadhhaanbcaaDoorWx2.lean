/- The walk of the reference's Text. -/
import Derived.Test.YtcaaadhhaanbcaaDoorWu
namespace Go.Proofs.YtcaaadhhaanbcaaDoor
open Go.RowKit

def tStep (ag : List Ex) (i : Nat) (a : List UInt8) : List UInt8 :=
  match ag[i]? with
  | some x => a ++ wtx x
  | none => a
theorem tStep_join (ag : List Ex) (acc : List UInt8) (i : Nat) (h : i ≤ ag.length) : joinN (tStep ag) i acc ++ wtxL (ag.drop i) i = acc ++ wtxL ag 0 := by
  induction i with
  | zero => simp [joinN]
  | succ i ih =>
    rw [← ih (by omega), List.drop_eq_getElem_cons (show i < ag.length by omega)]
    simp only [wtxL, joinN, tStep, List.getElem?_eq_getElem (show i < ag.length by omega)]
    split <;> simp
theorem tStep_all (ag : List Ex) (acc : List UInt8) : joinN (tStep ag) ag.length acc = acc ++ wtxL ag 0 := by
  rw [← tStep_join ag acc ag.length (Nat.le_refl _), List.drop_length]; simp [wtxL]
theorem tStep_le (ag : List Ex) (acc : List UInt8) (i : Nat) (h : i ≤ ag.length) : (joinN (tStep ag) i acc).length ≤ acc.length + (wtxL ag 0).length := by
  have := congrArg List.length (tStep_join ag acc i h)
  simp only [List.length_append] at this; omega

theorem strV_app (a b : List UInt8) : Value.string ((⟨a.toArray⟩ : ByteArray) ++ ⟨b.toArray⟩) = strV (a ++ b) := by
  show Value.string _ = Value.string _
  congr 1
theorem strV_app3 (a b c : List UInt8) : Value.string ((⟨a.toArray⟩ : ByteArray) ++ ⟨b.toArray⟩ ++ ⟨c.toArray⟩) = strV (a ++ b ++ c) := by
  rw [← strV_app]
  congr 2

theorem nodeB_kind {x : Ex} (h : nodeB x = true) : x.kind = 1 ∨ x.kind = 2 ∧ x.args = [] ∨ x.kind = 3 ∧ x.list = [] ∨ x.kind = 4 := by
  simp only [nodeB, Bool.and_eq_true] at h
  have h2 := h.2
  split at h2
  · exact .inl (by assumption)
  · split at h2
    · simp only [Bool.and_eq_true, List.isEmpty_iff] at h2; exact .inr (.inl ⟨by assumption, h2.2⟩)
    · split at h2
      · simp only [Bool.and_eq_true, List.isEmpty_iff] at h2; exact .inr (.inr (.inl ⟨by assumption, h2.2⟩))
      · split at h2
        · exact .inr (.inr (.inr (by assumption)))
        · cases h2
theorem formBL_get {xs : List Ex} (h : formBL xs = true) (i : Nat) (hi : i < xs.length) : formB xs[i] = true := by
  rw [formBL_eq, List.all_eq_true] at h; exact h _ (List.getElem_mem hi)
theorem listsL_get {xs : List Ex} (h : listsL xs = true) (i : Nat) (hi : i < xs.length) : listsB xs[i] = true := by
  rw [listsL_eq, List.all_eq_true] at h; exact h _ (List.getElem_mem hi)

def TextSays (m : Nat) : Prop := ∀ (x : Ex) (cs : Array Value) (w : World), nodes x ≤ m → nodes x ≤ 1024 → formB x = true → listsB x = true → XV (Lt w.heap.size) w x cs →
    Calls Tryd.prog 20 #[.agg cs] w fun e w' => e = .returned (strV (wtx x)) ∧ Below w.heap.size w w'

set_option maxRecDepth 100000 in
set_option maxHeartbeats 8000000 in
theorem f20_step (m : Nat) (ih : TextSays m) : TextSays (m + 1) := by
  intro x cs w hm hbig hf hls hx
  obtain ⟨la, lc, a, cap, rfl, hl, ha, hlc, hlc2, hcap, hcap2⟩ := XV_five hx
  clear hx
  have IH := Lib.hid ih; clear ih
  have hne := nodes_eq x
  have hwb := wtx_bound x hf hls
  have HA := Lib.hid ha; clear ha
  have HL := Lib.hid hl; clear hl
  have HW : Hid (∀ o, Below w.heap.size w (w.alloc o)) := Lib.hid (fun o => (Below.refl _ _).alloc (Nat.le_refl _) o)
  have hf2 := hf
  have hls2 := hls
  rw [formB_eq, Bool.and_eq_true] at hf2
  rw [listsB_eq, Bool.and_eq_true, decide_eq_true_eq] at hls2
  obtain ⟨hnb, hfl⟩ := hf2
  obtain ⟨hl4, hll⟩ := hls2
  have hkind := nodeB_kind hnb
  obtain ⟨hnums, hnn, hnam⟩ := nodeB_parts hnb
  have HFL := Lib.hid hfl; clear hfl
  have HLL := Lib.hid hll; clear hll
  have HNU := Lib.hid hnums; clear hnums
  clear hf hls hnb
  obtain ⟨k, nm, n, zs, ag⟩ := x
  simp only [Ex.kind, Ex.name, Ex.n, Ex.list, Ex.args] at *
  generalize hln : zs.length = ln at *
  generalize hal : ag.length = al at *
  have HB0 : Hid (Below (w.heap.size + 1) (w.alloc (Obj.cells #[Value.int IntKind.i64 k, strV nm, Value.int IntKind.i64 n, Value.slice la ln lc, Value.slice a al cap] 26)) (w.alloc (Obj.cells #[Value.int IntKind.i64 k, strV nm, Value.int IntKind.i64 n, Value.slice la ln lc, Value.slice a al cap] 26))) := Lib.hid (Below.refl _ _)
  have HC : Hid (∀ w', Below (w.heap.size + 1) (w.alloc (Obj.cells #[Value.int IntKind.i64 k, strV nm, Value.int IntKind.i64 n, Value.slice la ln lc, Value.slice a al cap] 26)) w' → (w'.cell? ⟨w.heap.size, 0, none⟩ = some (.int .i64 k) ∧ w'.cell? ⟨w.heap.size, 1, none⟩ = some (strV nm) ∧ w'.cell? ⟨w.heap.size, 2, none⟩ = some (.int .i64 n) ∧
      w'.cell? ⟨w.heap.size, 3, none⟩ = some (.slice la ln lc) ∧ w'.cell? ⟨w.heap.size, 4, none⟩ = some (.slice a al cap)) ∧ Below w.heap.size w w') := Lib.hid (fun w' hb => by
    refine ⟨⟨?_, ?_, ?_, ?_, ?_⟩, ((Below.refl _ _).alloc (Nat.le_refl _) _).trans (hb.mono (by omega))⟩ <;> (rw [hb.cell (by simp), Lib.cell_of_heap (heap_alloc_new w _)]; rfl))
  by_cases k1 : k = 1
  · subst k1
    have HT : Hid (wtx (.mk 1 nm n zs ag) = Lib.itoa n) := Lib.hid (by simp [wtx])
    obtain ⟨hn0, hn1⟩ := isNum_word hnn
    obtain ⟨u, rfl⟩ : ∃ u : Nat, n = u := ⟨n.toNat, by omega⟩
    have H41 := Lib.hid (fun W => f41_any u W (by omega))
    go_enter Tryd.func20, Tryd.ntmps20
    go_wp2_with (go_at_call 41; refine (H41.out _).mono ?_; rintro e w' ⟨rfl, rfl⟩)
    go_ret
    exact ⟨by rw [HT.out]; rfl, HW.out _⟩
  · by_cases k4 : k = 4
    · subst k4
      have HT : Hid (wtx (.mk 4 nm n zs ag) = nm) := Lib.hid (by simp [wtx])
      go_enter Tryd.func20, Tryd.ntmps20
      go_wp2_with fail
      go_ret
      exact ⟨by rw [HT.out]; rfl, HW.out _⟩
    · by_cases k2 : k = 2
      · subst k2
        obtain rfl : ag = [] := by rcases hkind with h | h | h | h <;> simp at h; exact h
        simp only [List.length_nil] at hal
        subst hal
        have HT : Hid (wtx (.mk 2 nm n zs []) = joinN (intStep zs) zs.length [91] ++ [93]) := Lib.hid (by simp [wtx])
        have hfi : ∀ z ∈ zs, wordI z := fun z hz => ⟨by have := (isNum_word (HNU.out z hz)).1; omega, by have := (isNum_word (HNU.out z hz)).2; omega⟩
        have HJ := Lib.hid (fun j => joinInts_len zs hfi j [91]); clear hfi
        go_enter Tryd.func20, Tryd.ntmps20
        go_wp2_with fail
        generalize w.alloc _ = W0 at *
        go_loopw [3, 5] (fun o i wr => ∃ k : Nat, k ≤ zs.length ∧ i = .int .i64 k ∧ Below (w.heap.size + 1) W0 wr ∧ o = strV (joinN (intStep zs) k [91])) (fun _ i _ => zs.length - (intOf i).toNat)
        case atStart => exact ⟨0, by omega, rfl, HB0.out, rfl⟩
        case round =>
          obtain ⟨k, hk, rfl, hb, rfl⟩ := hrel
          obtain ⟨⟨c0, c1, c2, c3, c4⟩, hbw⟩ := HC.out _ hb
          have Hb := Lib.hid hb; clear hb
          have Hbw := Lib.hid hbw; clear hbw
          have hjl := HJ.out k
          simp only [List.length_cons, List.length_nil] at hjl
          by_cases hlt : k < zs.length
          · obtain ⟨b, o, rfl, _, hc⟩ := RInts_get (RInts_later HL.out Hbw.out (Nat.le_refl _)) k hlt
            have hz := isNum_word (HNU.out _ (List.getElem_mem hlt))
            obtain ⟨u, hu⟩ : ∃ u : Nat, zs[k] = u := ⟨zs[k].toNat, by omega⟩
            have hu7 : u ≤ 9999999 := by omega
            rw [hu] at hc
            have hitl : (Lib.itoa u).length ≤ 21 := Lib.itoa_length_le u (by omega) (by omega)
            have H41 := Lib.hid (fun W => f41_any u W (by omega))
            have hzk : zs[k]? = some (u : Int) := by rw [List.getElem?_eq_getElem hlt, hu]
            have HT2 : Hid (joinN (intStep zs) (k + 1) [91] = (if 0 < k then joinN (intStep zs) k [91] ++ sepB else joinN (intStep zs) k [91]) ++ Lib.itoa u) := Lib.hid (by simp only [joinN, intStep, hzk])
            clear hzk hu hz
            generalize joinN (intStep zs) k [91] = acc at *
            by_cases hk0 : (0 : Int) < k
            · go_wp2_with (go_at_call 41; refine (H41.out _).mono ?_; rintro e w' ⟨rfl, rfl⟩)
              refine ⟨⟨k + 1, by omega, by go_num, Hb.out, ?_⟩, by simp [intOf]; omega⟩
              rw [HT2.out, if_pos (by omega), ← strV_app3]
            · go_wp2_with (go_at_call 41; refine (H41.out _).mono ?_; rintro e w' ⟨rfl, rfl⟩)
              refine ⟨⟨k + 1, by omega, by go_num, Hb.out, ?_⟩, by simp [intOf]; omega⟩
              rw [HT2.out, if_neg (by omega), ← strV_app]
          · have hkl : k = zs.length := by omega
            subst hkl
            generalize joinN (intStep zs) zs.length [91] = acc at *
            go_wp2_with fail
            go_loopw [3, 6] (fun o i wr => o = strV acc ∧ i = .int .i64 0 ∧ Below (w.heap.size + 1) W0 wr) (fun _ _ _ => 0)
            case atStart => exact ⟨rfl, rfl, Hb.out⟩
            case round =>
              clear c0 c1 c2 c3 c4 Hb Hbw
              obtain ⟨rfl, rfl, hb⟩ := hrel
              obtain ⟨⟨c0, c1, c2, c3, c4⟩, hbw⟩ := HC.out _ hb
              have Hbw := Lib.hid hbw; clear hbw
              go_wp2_with fail
              go_ret
              exact ⟨by rw [HT.out, ← strV_app]; rfl, Hbw.out⟩
      · have k3 : k = 3 := by omega
        subst k3
        obtain rfl : zs = [] := by rcases hkind with h | h | h | h <;> simp at h; exact h
        simp only [List.length_nil] at hln
        subst hln
        have HT : Hid (wtx (.mk 3 nm n [] ag) = nm ++ [40] ++ wtxL ag 0 ++ [41]) := Lib.hid (by simp [wtx])
        have htl : (wtxL ag 0).length + nm.length + 4 ≤ 102400000 := by
          have := HT.out
          rw [this] at hwb
          simp only [List.length_append, List.length_cons, List.length_nil] at hwb
          omega
        have HTL := Lib.hid (tStep_all ag (nm ++ [40]))
        have HLE := Lib.hid (fun k hk => tStep_le ag (nm ++ [40]) k hk)
        go_enter Tryd.func20, Tryd.ntmps20
        go_wp2_with fail
        generalize w.alloc _ = W0 at *
        go_loopw [3, 5] (fun o i wr => o = strV (nm ++ [40]) ∧ i = .int .i64 0 ∧ Below (w.heap.size + 1) W0 wr) (fun _ _ _ => 0)
        case atStart => exact ⟨strV_app _ _, rfl, HB0.out⟩
        case round =>
          obtain ⟨rfl, rfl, hb⟩ := hrel
          obtain ⟨⟨c0, c1, c2, c3, c4⟩, hbw⟩ := HC.out _ hb
          have Hb := Lib.hid hb; clear hb
          have Hbw := Lib.hid hbw; clear hbw
          go_wp2_with fail
          go_loopw [3, 6] (fun o i wr => ∃ k : Nat, k ≤ ag.length ∧ i = .int .i64 k ∧ Below (w.heap.size + 1) W0 wr ∧ o = strV (joinN (tStep ag) k (nm ++ [40]))) (fun _ i _ => ag.length - (intOf i).toNat)
          case atStart => exact ⟨0, by omega, rfl, Hb.out, rfl⟩
          case round =>
            clear c0 c1 c2 c3 c4 Hb Hbw
            obtain ⟨k, hk, rfl, hb, rfl⟩ := hrel
            obtain ⟨⟨c0, c1, c2, c3, c4⟩, hbw⟩ := HC.out _ hb
            have Hb := Lib.hid hb; clear hb
            have Hbw := Lib.hid hbw; clear hbw
            have hjl := HLE.out k hk
            simp only [List.length_append, List.length_cons, List.length_nil] at hjl
            by_cases hlt : k < ag.length
            · obtain ⟨b, o, rfl, _, ka, kc, kaa, kac, hxk, k0, k1, k2, k3, k4⟩ := RArgs_get (RArgs_later HA.out Hbw.out (Nat.le_refl _)) k hlt
              have hgl := nodesL_get ag k hlt
              have hjl2 := HLE.out (k + 1) (by omega)
              have HT2 : Hid (joinN (tStep ag) (k + 1) (nm ++ [40]) = (if 0 < k then joinN (tStep ag) k (nm ++ [40]) ++ sepB else joinN (tStep ag) k (nm ++ [40])) ++ wtx ag[k]) := Lib.hid (by simp only [joinN, tStep, List.getElem?_eq_getElem hlt])
              rw [HT2.out] at hjl2
              have H := Lib.hid (IH.out ag[k] _ wr (by omega) (by omega) (formBL_get HFL.out k hlt) (listsL_get HLL.out k hlt) (XV_later hxk (Below.refl _ _) Hbw.out.size)); clear hxk
              have hwb : w.heap.size + 1 ≤ wr.heap.size := World.block_lt_of_cell? wr _ c0
              generalize wtx ag[k] = tk at *
              generalize joinN (tStep ag) k (nm ++ [40]) = acc at *
              by_cases hk0 : (0 : Int) < k
              · rw [if_pos (by omega)] at hjl2
                simp only [List.length_append, List.length_cons, List.length_nil] at hjl2
                go_wp2_with fail
                refine H.out.mono ?_
                rintro e w3 ⟨rfl, hb3⟩
                have Hb3 := Lib.hid (Hb.out.trans (hb3.mono hwb))
                clear hb3
                go_wp2_with fail
                refine ⟨⟨k + 1, by omega, by go_num, Hb3.out, ?_⟩, by simp [intOf]; omega⟩
                rw [HT2.out, if_pos (by omega), ← strV_app3]
              · rw [if_neg (by omega)] at hjl2
                simp only [List.length_append, List.length_cons, List.length_nil] at hjl2
                go_wp2_with fail
                refine H.out.mono ?_
                rintro e w3 ⟨rfl, hb3⟩
                have Hb3 := Lib.hid (Hb.out.trans (hb3.mono hwb))
                clear hb3
                go_wp2_with fail
                refine ⟨⟨k + 1, by omega, by go_num, Hb3.out, ?_⟩, by simp [intOf]; omega⟩
                rw [HT2.out, if_neg (by omega), ← strV_app]
            · have hkl : k = ag.length := by omega
              subst hkl
              rw [HTL.out]
              generalize hacc : nm ++ [40] ++ wtxL ag 0 = acc
              have hal2 : acc.length ≤ 102400000 := by rw [← hacc]; simp only [List.length_append, List.length_cons, List.length_nil]; omega
              go_wp2_with fail
              go_ret
              exact ⟨by rw [HT.out, hacc, ← strV_app]; rfl, Hbw.out⟩
theorem f20_any : ∀ m, TextSays m
  | 0 => fun x _ _ h => by have := nodes_pos x; omega
  | m + 1 => f20_step m (f20_any m)
end Go.Proofs.YtcaaadhhaanbcaaDoor
