/- The walk of Same, over two values that read as the same expression. -/
import Derived.Test.YtcaaadhhaanbcaaDoorSz
import Derived.Deep.RegionHeld3
namespace Go.Proofs.YtcaaadhhaanbcaaDoor
open Go.RowKit

theorem RInts_at {G : Nat → Prop} {w : World} {a : Option Addr} {len cap : Nat} {zs : List Int} (h : RInts G w (.slice a len cap) zs) (i : Nat) (hi : i < zs.length) :
    ∃ b o, a = some ⟨b, o, none⟩ ∧ G b ∧ w.cell? ⟨b, o + i, none⟩ = some (.int .i64 zs[i]) := by
  obtain ⟨a', cap', hv, h1, h2, h3⟩ := h
  obtain ⟨rfl, rfl, rfl⟩ := Value.slice.inj hv
  obtain ⟨b, o, rfl, hG, hx⟩ := h3 (by intro he; rw [he] at hi; simp at hi)
  exact ⟨b, o, rfl, hG, hx i _ (List.getElem?_eq_getElem hi)⟩

theorem bel_drewN {B : Nat} {w w' : World} (h : Below B w w') (n : Nat) : Below B w (w'.drewN n) := h.trans ⟨rfl, rfl, rfl, Nat.le_refl _, fun _ _ => rfl⟩
def SameSays (m : Nat) : Prop := ∀ (x : Ex) (cs cs' : Array Value) (w : World), nodes x ≤ m → XV (Lt w.heap.size) w x cs → XV (Lt w.heap.size) w x cs' →
    Calls Tryd.prog 15 #[.agg cs, .agg cs'] w fun e w' => e = .returned (.bool true) ∧ Below w.heap.size w w'

set_option maxRecDepth 100000 in
set_option maxHeartbeats 8000000 in
theorem f15_step (m : Nat) (ih : SameSays m) : SameSays (m + 1) := by
  intro x cs cs' w hm hx hy
  have hnot : ∀ (x : Bool) (w : World), (Op.unary .not (.bool x)).run Tryd.prog w = .ok (.bool (!x)) w := fun _ _ => rfl
  obtain ⟨la, lc, a, cap, rfl, hl, ha, hlc, hlc2, hcap, hcap2⟩ := XV_five hx
  obtain ⟨lb, ld, b, cap', rfl, hl', ha', hld, hld2, hcap', hcap2'⟩ := XV_five hy
  clear hx hy
  have IH := Lib.hid ih; clear ih
  have hne := nodes_eq x
  have HA := Lib.hid ha; clear ha
  have HA' := Lib.hid ha'; clear ha'
  have HL := Lib.hid hl; clear hl
  have HL' := Lib.hid hl'; clear hl'
  generalize hO1 : Obj.cells #[Value.int IntKind.i64 x.kind, strV x.name, Value.int IntKind.i64 x.n, Value.slice la x.list.length lc, Value.slice a x.args.length cap] 26 = O1
  generalize hO2 : Obj.cells #[Value.int IntKind.i64 x.kind, strV x.name, Value.int IntKind.i64 x.n, Value.slice lb x.list.length ld, Value.slice b x.args.length cap'] 26 = O2
  have HC : Hid (∀ w', Below (w.heap.size + 2) ((w.alloc O1).alloc O2) w' →
      (w'.cell? ⟨w.heap.size, 0, none⟩ = some (.int .i64 x.kind) ∧ w'.cell? ⟨w.heap.size, 1, none⟩ = some (strV x.name) ∧ w'.cell? ⟨w.heap.size, 2, none⟩ = some (.int .i64 x.n) ∧
      w'.cell? ⟨w.heap.size, 3, none⟩ = some (.slice la x.list.length lc) ∧ w'.cell? ⟨w.heap.size, 4, none⟩ = some (.slice a x.args.length cap)) ∧
      (w'.cell? ⟨w.heap.size + 1, 0, none⟩ = some (.int .i64 x.kind) ∧ w'.cell? ⟨w.heap.size + 1, 1, none⟩ = some (strV x.name) ∧ w'.cell? ⟨w.heap.size + 1, 2, none⟩ = some (.int .i64 x.n) ∧
      w'.cell? ⟨w.heap.size + 1, 3, none⟩ = some (.slice lb x.list.length ld) ∧ w'.cell? ⟨w.heap.size + 1, 4, none⟩ = some (.slice b x.args.length cap')) ∧ Below w.heap.size w w') := Lib.hid (fun w' hb => by
    have e1 : w'.heap[w.heap.size]? = some O1 := by rw [hb.block _ (by omega), heap_alloc_old _ _ (by simp), heap_alloc_new]
    have e2 : w'.heap[w.heap.size + 1]? = some O2 := by rw [hb.block _ (by omega)]; have := heap_alloc_new (w.alloc O1) O2; simpa using this
    subst hO1 hO2
    refine ⟨⟨?_, ?_, ?_, ?_, ?_⟩, ⟨?_, ?_, ?_, ?_, ?_⟩, (((Below.refl _ _).alloc (Nat.le_refl _) _).alloc (by simp) _).trans (hb.mono (by omega))⟩ <;> first | (rw [Lib.cell_of_heap e1]; rfl) | (rw [Lib.cell_of_heap e2]; rfl))
  have HB0 := Lib.hid (Below.refl (w.heap.size + 2) ((w.alloc O1).alloc O2))
  subst hO1 hO2
  go_enter Tryd.func15, Tryd.ntmps15
  go_wp2_with fail
  generalize (w.alloc _).alloc _ = W2 at *
  go_loopw [5] (fun i wr => ∃ k : Nat, k ≤ x.list.length ∧ i = .int .i64 k ∧ Below (w.heap.size + 2) W2 wr) (fun i _ => x.list.length - (intOf i).toNat)
  case atStart => exact ⟨0, by omega, rfl, HB0.out⟩
  case round =>
    obtain ⟨k, hk, rfl, hb⟩ := hrel
    obtain ⟨⟨c0, c1, c2, c3, c4⟩, ⟨d0, d1, d2, d3, d4⟩, hbw⟩ := HC.out _ hb
    have Hb := Lib.hid hb; clear hb
    have Hbw := Lib.hid hbw; clear hbw
    by_cases hlt : k < x.list.length
    · obtain ⟨b1, o1, rfl, _, k1⟩ := RInts_at (RInts_later HL.out Hbw.out (Nat.le_refl _)) k hlt
      obtain ⟨b2, o2, rfl, _, k2⟩ := RInts_at (RInts_later HL'.out Hbw.out (Nat.le_refl _)) k hlt
      go_wp2_with fail
      go_quiet (fail)
      go_wp2_with fail
      exact ⟨⟨k + 1, by omega, by go_num, bel_drewN Hb.out nq⟩, by simp [intOf]; omega⟩
    · go_wp2_with fail
      go_loopw [6] (fun i wr => ∃ k : Nat, k ≤ x.args.length ∧ i = .int .i64 k ∧ Below (w.heap.size + 2) W2 wr) (fun i _ => x.args.length - (intOf i).toNat)
      case atStart => exact ⟨0, by omega, rfl, Hb.out⟩
      case round =>
        clear c0 c1 c2 c3 c4 d0 d1 d2 d3 d4 Hb Hbw hlt hk
        obtain ⟨k, hk, rfl, hb⟩ := hrel
        obtain ⟨⟨c0, c1, c2, c3, c4⟩, ⟨d0, d1, d2, d3, d4⟩, hbw⟩ := HC.out _ hb
        have Hb := Lib.hid hb; clear hb
        have Hbw := Lib.hid hbw; clear hbw
        by_cases hlt : k < x.args.length
        · obtain ⟨b1, o1, rfl, hg1, ka, kc, kaa, kac, hxk, k0, k1, k2, k3, k4⟩ := RArgs_get (RArgs_later HA.out Hbw.out (Nat.le_refl _)) k hlt
          obtain ⟨b2, o2, rfl, hg2, la2, lc2, laa2, lac2, hyk, l0, l1, l2, l3, l4⟩ := RArgs_get (RArgs_later HA'.out Hbw.out (Nat.le_refl _)) k hlt
          have hgl := nodesL_get x.args k hlt
          have hsz := Hbw.out.size
          have hlt1 : b1 < wr.heap.size := Nat.lt_of_lt_of_le hg1 hsz
          have hlt2 : b2 < wr.heap.size := Nat.lt_of_lt_of_le hg2 hsz
          have hsz2 : w.heap.size + 1 < wr.heap.size := World.block_lt_of_cell? wr _ d0
          have HI : Hid (∀ W', Below wr.heap.size wr W' → Calls Tryd.prog 15 #[.agg #[.int .i64 x.args[k].kind, strV x.args[k].name, .int .i64 x.args[k].n, .slice ka x.args[k].list.length kc, .slice kaa x.args[k].args.length kac], .agg #[.int .i64 x.args[k].kind, strV x.args[k].name, .int .i64 x.args[k].n, .slice la2 x.args[k].list.length lc2, .slice laa2 x.args[k].args.length lac2]] W' fun e w' => e = .returned (.bool true) ∧ Below wr.heap.size wr w') := Lib.hid (fun W' hb =>
            (IH.out x.args[k] _ _ W' (by omega) (XV_later hxk (hb.mono hsz) (by have := hb.size; omega)) (XV_later hyk (hb.mono hsz) (by have := hb.size; omega))).mono fun e w' h => ⟨h.1, hb.trans (h.2.mono hb.size)⟩)
          have HS : Hid (∀ w', Below wr.heap.size wr w' → w'.cell? ⟨w.heap.size, 4, none⟩ = some (.slice (some ⟨b1, o1, none⟩) x.args.length cap) ∧ w'.cell? ⟨w.heap.size + 1, 4, none⟩ = some (.slice (some ⟨b2, o2, none⟩) x.args.length cap') ∧
              w'.cell? ⟨b1, o1 + k * 5, none⟩ = some (.int .i64 x.args[k].kind) ∧ w'.cell? ⟨b1, o1 + k * 5 + 1, none⟩ = some (strV x.args[k].name) ∧ w'.cell? ⟨b1, o1 + k * 5 + 2, none⟩ = some (.int .i64 x.args[k].n) ∧
              w'.cell? ⟨b1, o1 + k * 5 + 3, none⟩ = some (.slice ka x.args[k].list.length kc) ∧ w'.cell? ⟨b1, o1 + k * 5 + 4, none⟩ = some (.slice kaa x.args[k].args.length kac) ∧
              w'.cell? ⟨b2, o2 + k * 5, none⟩ = some (.int .i64 x.args[k].kind) ∧ w'.cell? ⟨b2, o2 + k * 5 + 1, none⟩ = some (strV x.args[k].name) ∧ w'.cell? ⟨b2, o2 + k * 5 + 2, none⟩ = some (.int .i64 x.args[k].n) ∧
              w'.cell? ⟨b2, o2 + k * 5 + 3, none⟩ = some (.slice la2 x.args[k].list.length lc2) ∧ w'.cell? ⟨b2, o2 + k * 5 + 4, none⟩ = some (.slice laa2 x.args[k].args.length lac2)) := Lib.hid (fun w' hb => by
            refine ⟨?_, ?_, ?_, ?_, ?_, ?_, ?_, ?_, ?_, ?_, ?_, ?_⟩ <;> (first | (rw [hb.cell (by simp only []; omega)]; assumption)))
          have HB := Lib.hid (Below.refl wr.heap.size wr)
          clear hxk hyk
          generalize x.args[k] = y at *
          go_wp2_with fail
          go_region_held3 (fun w' => w'.cell? ⟨w.heap.size, 4, none⟩ = some (.slice (some ⟨b1, o1, none⟩) x.args.length cap) ∧ w'.cell? ⟨w.heap.size + 1, 4, none⟩ = some (.slice (some ⟨b2, o2, none⟩) x.args.length cap') ∧
              w'.cell? ⟨b1, o1 + k * 5, none⟩ = some (.int .i64 y.kind) ∧ w'.cell? ⟨b1, o1 + k * 5 + 1, none⟩ = some (strV y.name) ∧ w'.cell? ⟨b1, o1 + k * 5 + 2, none⟩ = some (.int .i64 y.n) ∧
              w'.cell? ⟨b1, o1 + k * 5 + 3, none⟩ = some (.slice ka y.list.length kc) ∧ w'.cell? ⟨b1, o1 + k * 5 + 4, none⟩ = some (.slice kaa y.args.length kac) ∧
              w'.cell? ⟨b2, o2 + k * 5, none⟩ = some (.int .i64 y.kind) ∧ w'.cell? ⟨b2, o2 + k * 5 + 1, none⟩ = some (strV y.name) ∧ w'.cell? ⟨b2, o2 + k * 5 + 2, none⟩ = some (.int .i64 y.n) ∧
              w'.cell? ⟨b2, o2 + k * 5 + 3, none⟩ = some (.slice la2 y.list.length lc2) ∧ w'.cell? ⟨b2, o2 + k * 5 + 4, none⟩ = some (.slice laa2 y.args.length lac2))
            (first
              | exact HS.out _ hb2
              | exact HS.out _ (HB.out.drew)
              | go_keep)
            ((first
              | (go_at_call 15; refine (HI.out _ (HB.out.drew)).mono ?_; rintro e w2 ⟨rfl, hb2⟩)))
          go_wp2_with fail
          exact ⟨⟨k + 1, by omega, by go_num, Hb.out.trans (hb2.mono (by omega))⟩, by simp [intOf]; omega⟩
        · go_wp2_with fail
          go_ret
          exact ⟨rfl, Hbw.out⟩
theorem f15_any : ∀ m, SameSays m
  | 0 => fun x _ _ _ h => by have := nodes_pos x; omega
  | m + 1 => f15_step m (f15_any m)
end Go.Proofs.YtcaaadhhaanbcaaDoor
