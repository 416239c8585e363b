/- The walks of within and small. -/
import Derived.Test.YtcaaadhhaanbcaaDoorSm
namespace Go.Proofs.YtcaaadhhaanbcaaDoor
open Go.RowKit

/-- Two cells that count. -/
structure Cnt (w : World) (p q : Nat) (n e : Int) : Prop where
  hp : w.heap[p]? = some (.cells #[.int .i64 n] 3 (0, 0))
  hq : w.heap[q]? = some (.cells #[.int .i64 e] 3 (0, 0))
  ne : p ≠ q

theorem Cnt.cells {w : World} {p q : Nat} {n e : Int} (h : Cnt w p q n e) :
    w.cell? ⟨p, 0, none⟩ = some (.int .i64 n) ∧ w.cell? ⟨q, 0, none⟩ = some (.int .i64 e) ∧ w.frozen? ⟨p, 0, none⟩ = false ∧ w.frozen? ⟨q, 0, none⟩ = false ∧ p < w.heap.size ∧ q < w.heap.size := by
  have hp := h.hp
  have hq := h.hq
  refine ⟨?_, ?_, ?_, ?_, (Array.getElem?_eq_some_iff.1 hp).1, (Array.getElem?_eq_some_iff.1 hq).1⟩ <;> simp [World.cell?, World.frozen?, hp, hq]
theorem Cnt.later {w w' : World} {p q : Nat} {n e : Int} (h : Cnt w p q n e) (hb : Below w.heap.size w w') : Cnt w' p q n e :=
  ⟨(hb.block _ h.cells.2.2.2.2.1).trans h.hp, (hb.block _ h.cells.2.2.2.2.2).trans h.hq, h.ne⟩
theorem Cnt.setp {w : World} {p q : Nat} {n e : Int} (h : Cnt w p q n e) (n' : Int) : Cnt (w.setCell ⟨p, 0, none⟩ (.int .i64 n')) p q n' e :=
  ⟨by have := h.hp; simp [World.setCell, Array.getElem?_modify, this], (Below.heap_setCell _ _ _ _ (fun e => h.ne (Eq.symm e))).trans h.hq, h.ne⟩
theorem Cnt.setq {w : World} {p q : Nat} {n e : Int} (h : Cnt w p q n e) (e' : Int) : Cnt (w.setCell ⟨q, 0, none⟩ (.int .i64 e')) p q n e' :=
  ⟨(Below.heap_setCell _ _ _ _ (fun e => h.ne e)).trans h.hp, by have := h.hq; simp [World.setCell, Array.getElem?_modify, this], h.ne⟩

def WithinPost (x : Ex) (n0 : Int) (p q B : Nat) (w : World) (en : Ending) (w' : World) : Prop :=
  ∃ b n1 e1, en = .returned (.bool b) ∧ Below B w w' ∧ w.heap.size ≤ w'.heap.size ∧ Cnt w' p q n1 e1 ∧ (b = true → n1 = n0 + nodes x ∧ n1 ≤ 1200 ∧ 0 ≤ e1 ∧ e1 ≤ 6000)

def WithinSays (m : Nat) : Prop := ∀ (x : Ex) (cs : Array Value) (d n0 e0 : Int) (p q B : Nat) (w : World), nodes x ≤ m → XV (Lt B) w x cs → B ≤ p → B ≤ q → B ≤ w.heap.size → Cnt w p q n0 e0 → 0 ≤ n0 → n0 ≤ 1200 → 0 ≤ e0 → e0 ≤ 6000 → 0 ≤ d → d ≤ 60 →
    Calls Tryd.prog 32 #[.agg cs, .int .i64 d, .pointer (some ⟨p, 0, none⟩), .pointer (some ⟨q, 0, none⟩)] w (WithinPost x n0 p q B w)

set_option maxRecDepth 100000 in
set_option maxHeartbeats 8000000 in
theorem f32_step (m : Nat) (ih : WithinSays m) : WithinSays (m + 1) := by
  intro x cs d n0 e0 p q B w hm hx hBp hBq hBw hc hn0 hn1 he0 he1 hd0 hd1
  have hnot : ∀ (x : Bool) (w : World), (Op.unary .not (.bool x)).run Tryd.prog w = .ok (.bool (!x)) w := fun _ _ => rfl
  obtain ⟨la, lc, a, cap, rfl, -, ha, hlc, hlc2, hcap, hcap2⟩ := XV_five hx
  clear hx
  have IH := Lib.hid ih; clear ih
  have hne := nodes_eq x
  have HA := Lib.hid ha; clear ha
  obtain ⟨i0, i1, i2, i3, hps, hqs⟩ := hc.cells
  have hcW : Cnt ((w.setCell ⟨p, 0, none⟩ (.int .i64 (n0 + 1))).alloc (Obj.cells #[Value.int IntKind.i64 x.kind, strV x.name, Value.int IntKind.i64 x.n, Value.slice la x.list.length lc, Value.slice a x.args.length cap] 26)) p q (n0 + 1) e0 :=
    (hc.setp (n0 + 1)).later ((Below.refl _ _).alloc (by simp) _)
  have hbW : Below B w ((w.setCell ⟨p, 0, none⟩ (.int .i64 (n0 + 1))).alloc (Obj.cells #[Value.int IntKind.i64 x.kind, strV x.name, Value.int IntKind.i64 x.n, Value.slice la x.list.length lc, Value.slice a x.args.length cap] 26)) :=
    ((Below.refl B w).setCell (p := ⟨p, 0, none⟩) hBp _).alloc (by simpa using hBw) _
  have hsW : ((w.setCell ⟨p, 0, none⟩ (.int .i64 (n0 + 1))).alloc (Obj.cells #[Value.int IntKind.i64 x.kind, strV x.name, Value.int IntKind.i64 x.n, Value.slice la x.list.length lc, Value.slice a x.args.length cap] 26)).heap.size = w.heap.size + 1 := by simp
  have hxW : ((w.setCell ⟨p, 0, none⟩ (.int .i64 (n0 + 1))).alloc (Obj.cells #[Value.int IntKind.i64 x.kind, strV x.name, Value.int IntKind.i64 x.n, Value.slice la x.list.length lc, Value.slice a x.args.length cap] 26)).heap[w.heap.size]? = some (Obj.cells #[Value.int IntKind.i64 x.kind, strV x.name, Value.int IntKind.i64 x.n, Value.slice la x.list.length lc, Value.slice a x.args.length cap] 26) := by
    have := heap_alloc_new (w.setCell ⟨p, 0, none⟩ (.int .i64 (n0 + 1))) (Obj.cells #[Value.int IntKind.i64 x.kind, strV x.name, Value.int IntKind.i64 x.n, Value.slice la x.list.length lc, Value.slice a x.args.length cap] 26)
    simpa using this
  have HcW := Lib.hid hcW; clear hcW
  have HbW := Lib.hid hbW; clear hbW
  have HsW := Lib.hid hsW; clear hsW
  have HxW := Lib.hid hxW; clear hxW
  go_enter Tryd.func32, Tryd.ntmps32
  go_wp2_with fail
  generalize World.alloc (World.setCell _ _ _) _ = W2 at *
  have hsz := HsW.out
  have hx := HxW.out
  have hb0 : W2.cell? ⟨w.heap.size, 0, none⟩ = some (.int .i64 x.kind) := by rw [Lib.cell_of_heap hx]; rfl
  have hb1 : W2.cell? ⟨w.heap.size, 1, none⟩ = some (strV x.name) := by rw [Lib.cell_of_heap hx]; rfl
  have hb3 : W2.cell? ⟨w.heap.size, 3, none⟩ = some (.slice la x.list.length lc) := by rw [Lib.cell_of_heap hx]; rfl
  have hb4 : W2.cell? ⟨w.heap.size, 4, none⟩ = some (.slice a x.args.length cap) := by rw [Lib.cell_of_heap hx]; rfl
  obtain ⟨j0, j1, j2, j3, hps2, hqs2⟩ := HcW.out.cells
  clear i0 i1 i2 i3
  have hqw : q ≠ w.heap.size := by omega
  have hpq := HcW.out.ne
  have hc3 := (HcW.out.setq (e0 + min (x.list.length : Int) 6000)).later (Below.refl _ _).drew
  have HB3 : Hid (Below B w ((W2.setCell ⟨q, 0, none⟩ (.int .i64 (e0 + min (x.list.length : Int) 6000))).drew)) := Lib.hid ((HbW.out.setCell (p := ⟨q, 0, none⟩) hBq _).drew)
  have HS3 : Hid (w.heap.size + 1 ≤ ((W2.setCell ⟨q, 0, none⟩ (.int .i64 (e0 + min (x.list.length : Int) 6000))).drew).heap.size) := Lib.hid (by simp; omega)
  have HC3 := Lib.hid hc3; clear hc3
  go_region
  go_wp2_with fail
  all_goals try (go_ret; exact ⟨false, _, _, rfl, HB3.out, Nat.le_of_succ_le HS3.out, HC3.out, fun h => by cases h⟩)
  generalize World.drew _ = W3 at *
  rename_i h1 h2 h3 h4 _ _
  clear hb0 hb1 hb3 hb4 j0 j1 j2 j3 hx
  go_loopw [48] (fun i wr => ∃ (k : Nat) (n e : Int), k ≤ x.args.length ∧ i = .int .i64 k ∧ Below B w wr ∧ w.heap.size + 1 ≤ wr.heap.size ∧ Cnt wr p q n e ∧ n = n0 + 1 + nodesL (x.args.take k) ∧ n ≤ 1200 ∧ 0 ≤ e ∧ e ≤ 6000) (fun i _ => x.args.length - (intOf i).toNat)
  case atStart => exact ⟨0, _, _, by omega, rfl, HB3.out, HS3.out, HC3.out, by simp [nodesL], h1, by omega, h2⟩
  case round =>
    obtain ⟨k, n, e, hk, rfl, hbr, hsr, hcr, hn, hnr, her0, her1⟩ := hrel
    have Hbr := Lib.hid hbr; clear hbr
    have Hcr := Lib.hid hcr; clear hcr
    by_cases hlt : k < x.args.length
    · obtain ⟨b, o, rfl, _, ka, kc, kaa, kac, hxk, c0, c1, c2, c3, c4⟩ := RArgs_get (RArgs_later HA.out Hbr.out (Nat.le_refl _)) k hlt
      have htk := nodesL_take x.args k hlt
      have hgl := nodesL_get x.args k hlt
      have hlen := nodes_eq x
      have Hxk := Lib.hid hxk; clear hxk
      have H := Lib.hid (fun O => IH.out x.args[k] _ (d - 1) n e p q B (wr.alloc O) (by omega) (XV_later Hxk.out ((Below.refl _ _).alloc (by omega) _) (Nat.le_refl _)) hBp hBq (by simp; omega) (Hcr.out.later ((Below.refl _ _).alloc (Nat.le_refl _) _)) (by omega) hnr her0 her1 (by omega) (by omega))
      go_wp2_with fail
      refine (H.out _).mono ?_
      rintro en w3 ⟨b, n1, e1, rfl, hb3, hs3, hc3, hnn⟩
      have Hb3 := Lib.hid ((Hbr.out.alloc (by omega) _).trans hb3)
      have hs3' : w.heap.size + 1 ≤ w3.heap.size := by simp at hs3; omega
      have Hc3 := Lib.hid hc3
      clear hb3 hc3 hs3
      cases b
      · go_wp2_with fail
        go_ret
        exact ⟨false, _, _, rfl, Hb3.out, by omega, Hc3.out, fun h => by cases h⟩
      · obtain ⟨q1, q2, q3, q4⟩ := hnn rfl
        go_wp2_with fail
        exact ⟨⟨k + 1, n1, e1, by omega, by go_num, Hb3.out, hs3', Hc3.out, by rw [htk]; omega, q2, q3, q4⟩, by simp [intOf]; omega⟩
    · go_wp2_with fail
      go_ret
      exact ⟨true, n, e, rfl, Hbr.out, by omega, Hcr.out, fun _ => ⟨by rw [hn, List.take_of_length_le (by omega), hne]; omega, hnr, her0, her1⟩⟩
theorem f32_any : ∀ m, WithinSays m
  | 0 => fun x _ _ _ _ _ _ _ _ h => by have := nodes_pos x; omega
  | m + 1 => f32_step m (f32_any m)

set_option maxRecDepth 100000 in
set_option maxHeartbeats 8000000 in
theorem f16_any (x : Ex) (cs : Array Value) (w : World) (hx : XV (Lt w.heap.size) w x cs) :
    Calls Tryd.prog 16 #[.agg cs, .int .i64 60] w fun e w' => ∃ b, e = .returned (.bool b) ∧ Below w.heap.size w w' ∧ (b = true → nodes x ≤ 1200) := by
  have hx' := hx
  obtain ⟨la, lc, a, cap, rfl, -, -, hlc, hlc2, hcap, hcap2⟩ := XV_five hx'
  clear hx'
  go_enter Tryd.func16, Tryd.ntmps16
  go_wp2_with fail
  have hz : ∀ (W : World) (O : Obj), Below w.heap.size w W → Cnt ((W.alloc (.cells #[.int .i64 0] 3)).alloc (.cells #[.int .i64 0] 3)) W.heap.size (W.heap.size + 1) 0 0 := fun W _ _ =>
    ⟨by rw [heap_alloc_old _ _ (by simp), heap_alloc_new], by have := heap_alloc_new (W.alloc (.cells #[.int .i64 0] 3)) (.cells #[.int .i64 0] 3); simpa using this, by omega⟩
  have hb1 : Below w.heap.size w (w.alloc (Obj.cells #[Value.int IntKind.i64 x.kind, strV x.name, Value.int IntKind.i64 x.n, Value.slice la x.list.length lc, Value.slice a x.args.length cap] 26)) := (Below.refl _ _).alloc (Nat.le_refl _) _
  have hc := hz _ (.cells #[] 0) hb1
  have hb3 := (hb1.alloc (show w.heap.size ≤ _ by simp) (.cells #[.int .i64 0] 3)).alloc (show w.heap.size ≤ _ by simp; omega) (.cells #[.int .i64 0] 3)
  refine (f32_any _ x _ 60 0 0 (w.heap.size + 1) (w.heap.size + 1 + 1) w.heap.size _ (Nat.le_refl _) (XV_later hx hb3 (Nat.le_refl _)) (by omega) (by omega) hb3.size (by simpa using hc) (by omega) (by omega) (by omega) (by omega) (by omega) (by omega)).mono ?_
  rintro en w3 ⟨b, n1, e1, rfl, hb, hs, -, hnn⟩
  have HB := Lib.hid (hb3.trans hb)
  go_wp2_with fail
  go_ret
  exact ⟨b, rfl, HB.out, fun h => by have := hnn h; omega⟩
end Go.Proofs.YtcaaadhhaanbcaaDoor
