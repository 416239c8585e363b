/- The walks of both Size functions, over a value that reads as a finite expression. -/
import Derived.Test.YtcaaadhhaanbcaaDoorRp
namespace Go.Proofs.YtcaaadhhaanbcaaDoor
open Go.RowKit

mutual
def nodes : Ex → Nat
  | .mk _ _ _ _ ag => nodesL ag + 1
def nodesL : List Ex → Nat
  | [] => 0
  | x :: xs => nodes x + nodesL xs
end
theorem nodes_eq (x : Ex) : nodes x = nodesL x.args + 1 := by cases x; simp [nodes, Ex.args]
theorem nodes_pos (x : Ex) : 0 < nodes x := by rw [nodes_eq]; omega
theorem nodesL_snoc (xs : List Ex) (x : Ex) : nodesL (xs ++ [x]) = nodesL xs + nodes x := by
  induction xs with
  | nil => simp [nodesL]
  | cons a l ih => simp only [List.cons_append, nodesL, ih]; omega
theorem nodesL_take (xs : List Ex) (i : Nat) (h : i < xs.length) : nodesL (xs.take (i + 1)) = nodesL (xs.take i) + nodes xs[i] := by
  rw [List.take_succ_eq_append_getElem h, nodesL_snoc]
theorem nodesL_take_le (xs : List Ex) (i : Nat) : nodesL (xs.take i) ≤ nodesL xs := by
  induction xs generalizing i with
  | nil => simp [nodesL]
  | cons a l ih => cases i with
    | zero => simp [nodesL]
    | succ i => simp only [List.take_succ_cons, nodesL]; have := ih i; omega
theorem nodesL_get (xs : List Ex) (i : Nat) (h : i < xs.length) : nodes xs[i] ≤ nodesL xs := by
  have := nodesL_take xs i h
  have := nodesL_take_le xs (i + 1)
  omega
theorem nodesL_len (xs : List Ex) : xs.length ≤ nodesL xs := by
  induction xs with
  | nil => simp [nodesL]
  | cons a l ih => simp only [nodesL, List.length_cons]; have := nodes_pos a; omega

/-- The blocks below B. -/
abbrev Lt (B : Nat) : Nat → Prop := fun b => b < B

theorem XV_later {B B' : Nat} {w w' : World} {x : Ex} {cs : Array Value} (h : XV (Lt B) w x cs) (hb : Below B w w') (hB : B ≤ B') : XV (Lt B') w' x cs :=
  XV_mono (fun b o v hl hc => ⟨Nat.lt_of_lt_of_le hl hB, by rw [hb.cell hl]; exact hc⟩) h
theorem RArgs_later {B B' : Nat} {w w' : World} {x : List Ex} {v : Value} (h : RArgs (Lt B) w v x) (hb : Below B w w') (hB : B ≤ B') : RArgs (Lt B') w' v x :=
  RArgs_mono (fun b o v hl hc => ⟨Nat.lt_of_lt_of_le hl hB, by rw [hb.cell hl]; exact hc⟩) h
theorem RInts_later {B B' : Nat} {w w' : World} {x : List Int} {v : Value} (h : RInts (Lt B) w v x) (hb : Below B w w') (hB : B ≤ B') : RInts (Lt B') w' v x :=
  RInts_mono (fun b o v hl hc => ⟨Nat.lt_of_lt_of_le hl hB, by rw [hb.cell hl]; exact hc⟩) h

theorem RXs_get {G : Nat → Prop} {w : World} : ∀ (xs : List Ex) (f : Nat → Option Value) (i : Nat) (h : i < xs.length), RXs G w xs f → RX G w xs[i] (fun j => f (j + i * 5))
  | [], _, _, h, _ => by simp at h
  | x :: xs, f, 0, _, hx => by
    have := (RXs_cons.1 hx).1; simpa using this
  | x :: xs, f, i + 1, h, hx => by
    have := RXs_get xs _ i (by simpa using h) (RXs_cons.1 hx).2
    simp only [List.getElem_cons_succ]
    refine RX_mono (fun b o v hb hv => ⟨hb, hv⟩) _ _ _ (fun j v hj => ?_) this
    rw [← hj]; congr 1; omega

/-- The cells of an expression's value, spelled. -/
theorem XV_five {G : Nat → Prop} {w : World} {x : Ex} {cs : Array Value} (h : XV G w x cs) :
    ∃ la lc aa ac, cs = #[.int .i64 x.kind, strV x.name, .int .i64 x.n, .slice la x.list.length lc, .slice aa x.args.length ac] ∧
      RInts G w (.slice la x.list.length lc) x.list ∧ RArgs G w (.slice aa x.args.length ac) x.args ∧ x.list.length ≤ lc ∧ lc ≤ 9223372036854775807 ∧ x.args.length ≤ ac ∧ ac ≤ 9223372036854775807 := by
  obtain ⟨lv, av, rfl, hl, ha⟩ := h
  have hl' := hl
  have ha' := ha
  obtain ⟨la, lc, rfl, l1, l2, _⟩ := hl'
  obtain ⟨aa, ac, rfl, a1, a2, _⟩ := ha'
  exact ⟨la, lc, aa, ac, rfl, hl, ha, l1, l2, a1, a2⟩

/-- The five cells of one argument of a row, and what they read as. -/
theorem RArgs_get {G : Nat → Prop} {w : World} {a : Option Addr} {len cap : Nat} {ag : List Ex} (h : RArgs G w (.slice a len cap) ag) (i : Nat) (hi : i < ag.length) :
    ∃ b o, a = some ⟨b, o, none⟩ ∧ G b ∧ ∃ la lc aa ac, XV G w ag[i] #[.int .i64 ag[i].kind, strV ag[i].name, .int .i64 ag[i].n, .slice la ag[i].list.length lc, .slice aa ag[i].args.length ac] ∧
      w.cell? ⟨b, o + i * 5, none⟩ = some (.int .i64 ag[i].kind) ∧ w.cell? ⟨b, o + i * 5 + 1, none⟩ = some (strV ag[i].name) ∧ w.cell? ⟨b, o + i * 5 + 2, none⟩ = some (.int .i64 ag[i].n) ∧
      w.cell? ⟨b, o + i * 5 + 3, none⟩ = some (.slice la ag[i].list.length lc) ∧ w.cell? ⟨b, o + i * 5 + 4, none⟩ = some (.slice aa ag[i].args.length ac) := by
  obtain ⟨a', cap', hv, h1, h2, h3⟩ := h
  obtain ⟨rfl, rfl, rfl⟩ := Value.slice.inj hv
  obtain ⟨b, o, rfl, hG, hx⟩ := h3 (by intro he; rw [he] at hi; simp at hi)
  have hr := RXs_get ag _ i hi hx
  obtain ⟨cs, hxv, _, hc⟩ := XV.of_rx hr
  obtain ⟨la, lc, aa, ac, rfl, _⟩ := XV_five hxv
  refine ⟨b, o, rfl, hG, la, lc, aa, ac, hxv, ?_, ?_, ?_, ?_, ?_⟩
  · have := hc 0 (by decide); simpa using this
  · have := hc 1 (by decide); rw [← show o + (1 + i * 5) = o + i * 5 + 1 by omega]; simpa using this
  · have := hc 2 (by decide); rw [← show o + (2 + i * 5) = o + i * 5 + 2 by omega]; simpa using this
  · have := hc 3 (by decide); rw [← show o + (3 + i * 5) = o + i * 5 + 3 by omega]; simpa using this
  · have := hc 4 (by decide); rw [← show o + (4 + i * 5) = o + i * 5 + 4 by omega]; simpa using this

def SizeSays (f : FuncId) : Prop := ∀ (m : Nat) (x : Ex) (cs : Array Value) (w : World), nodes x ≤ m → nodes x ≤ 4611686018427387904 → XV (Lt w.heap.size) w x cs →
    Calls Tryd.prog f #[.agg cs] w fun e w' => e = .returned (.int .i64 (nodes x)) ∧ Below w.heap.size w w'

set_option maxRecDepth 100000 in
set_option maxHeartbeats 4000000 in
theorem f22_any : SizeSays 22 := by
  intro m
  induction m with
  | zero => intro x cs w h; have := nodes_pos x; omega
  | succ m ih =>
    intro x cs w hm hbig hx
    obtain ⟨la, lc, a, cap, rfl, _, ha, hlc, hlc2, hcap, hcap2⟩ := XV_five hx
    clear hx
    have IH := Lib.hid ih; clear ih
    have hne := nodes_eq x
    have hlen := nodesL_len x.args
    have HA := Lib.hid ha; clear ha
    go_enter Tryd.func22, Tryd.ntmps22
    go_wp2_with fail
    have hW : Below w.heap.size w (w.alloc (Obj.cells #[Value.int IntKind.i64 x.kind, strV x.name, Value.int IntKind.i64 x.n, Value.slice la x.list.length lc, Value.slice a x.args.length cap] 26)) := (Below.refl _ _).alloc (Nat.le_refl _) _
    generalize w.alloc _ = W at *
    have HW := Lib.hid hW; clear hW
    go_loopw [3, 9] (fun t i wr => ∃ k : Nat, k ≤ x.args.length ∧ t = .int .i64 (nodesL (x.args.take k) + 1 : Nat) ∧ i = .int .i64 k ∧ Below w.heap.size w wr) (fun _ i _ => x.args.length - (intOf i).toNat)
    case atStart => exact ⟨0, by omega, by simp [nodesL], rfl, HW.out⟩
    case round =>
      obtain ⟨k, hk, rfl, rfl, hb⟩ := hrel
      by_cases hlt : k < x.args.length
      · obtain ⟨b, o, rfl, _, ka, kc, kaa, kac, hxk, c0, c1, c2, c3, c4⟩ := RArgs_get (RArgs_later HA.out hb (Nat.le_refl _)) k hlt
        have htk := nodesL_take x.args k hlt
        have hle := nodesL_take_le x.args (k + 1)
        have hgl := nodesL_get x.args k hlt
        have Hxk := Lib.hid hxk; clear hxk
        have Hb := Lib.hid hb; clear hb
        go_wp2_with fail
        refine (IH.out x.args[k] _ _ (by omega) (by omega) (XV_later Hxk.out ((Below.refl _ _).alloc Hb.out.size _) (by simp; have := Hb.out.size; omega))).mono ?_
        rintro e w3 ⟨rfl, hb3⟩
        have Hb3 := Lib.hid (((Hb.out.alloc Hb.out.size _)).trans (hb3.mono (by simp; have := Hb.out.size; omega)))
        clear hb3
        go_wp2_with fail
        go_roundw
        case rel => exact ⟨k + 1, by omega, by rw [htk]; go_num, by go_num, Hb3.out⟩
        case measure => simp [intOf]; omega
      · go_wp2_with fail
        go_ret
        exact ⟨by rw [List.take_of_length_le (by omega)]; rw [hne]; rfl, hb⟩
set_option maxRecDepth 100000 in
set_option maxHeartbeats 4000000 in
theorem f23_any : SizeSays 23 := by
  intro m
  induction m with
  | zero => intro x cs w h; have := nodes_pos x; omega
  | succ m ih =>
    intro x cs w hm hbig hx
    obtain ⟨la, lc, a, cap, rfl, _, ha, hlc, hlc2, hcap, hcap2⟩ := XV_five hx
    clear hx
    have IH := Lib.hid ih; clear ih
    have hne := nodes_eq x
    have hlen := nodesL_len x.args
    have HA := Lib.hid ha; clear ha
    go_enter Tryd.func23, Tryd.ntmps23
    go_wp2_with fail
    go_loopw [3, 4] (fun t i wr => ∃ k : Nat, k ≤ x.args.length ∧ t = .int .i64 (nodesL (x.args.take k) + 1 : Nat) ∧ i = .int .i64 k ∧ Below (w.heap.size + 1) (w.alloc (Obj.cells #[Value.int IntKind.i64 x.kind, strV x.name, Value.int IntKind.i64 x.n, Value.slice la x.list.length lc, Value.slice a x.args.length cap] 26)) wr) (fun _ i _ => x.args.length - (intOf i).toNat)
    case atStart => exact ⟨0, by omega, by simp [nodesL], rfl, Below.refl _ _⟩
    case round =>
      obtain ⟨k, hk, rfl, rfl, hb1⟩ := hrel
      have hb : Below w.heap.size w wr := ((Below.refl _ w).alloc (Nat.le_refl _) _).trans (hb1.mono (by omega))
      have c5 : wr.cell? ⟨w.heap.size, 4, none⟩ = some (Value.slice a x.args.length cap) := by
        rw [hb1.cell (by simp), Lib.cell_of_heap (heap_alloc_new w _)]; rfl
      have Hb1 := Lib.hid hb1; clear hb1
      by_cases hlt : k < x.args.length
      · obtain ⟨b, o, rfl, _, ka, kc, kaa, kac, hxk, c0, c1, c2, c3, c4⟩ := RArgs_get (RArgs_later HA.out hb (Nat.le_refl _)) k hlt
        have htk := nodesL_take x.args k hlt
        have hle := nodesL_take_le x.args (k + 1)
        have hgl := nodesL_get x.args k hlt
        have Hxk := Lib.hid hxk; clear hxk
        have Hb := Lib.hid hb; clear hb
        go_wp2_with fail
        refine (IH.out x.args[k] _ _ (by omega) (by omega) (XV_later Hxk.out (Below.refl _ _) (by have := Hb.out.size; omega))).mono ?_
        rintro e w3 ⟨rfl, hb3⟩
        have Hb3 := Lib.hid (Hb1.out.trans (hb3.mono (by have := Hb1.out.size; simp at this; omega)))
        clear hb3
        go_wp2_with fail
        go_roundw
        case rel => exact ⟨k + 1, by omega, by rw [htk]; go_num, by go_num, Hb3.out⟩
        case measure => simp [intOf]; omega
      · go_wp2_with fail
        go_ret
        exact ⟨by rw [List.take_of_length_le (by omega)]; rw [hne]; rfl, hb⟩
end Go.Proofs.YtcaaadhhaanbcaaDoor
