/- The walk of Tokens: the deferred guard turns the scan's panic into an error and its place. -/
import Derived.Test.YtcaaadhhaanbcaaDoorWh
import Derived.Test.YtcaaadhhaanbcaaDoorWc
namespace Go.Proofs.YtcaaadhhaanbcaaDoor
open Go.RowKit

def TokensPost (l : List UInt8) (w : World) (e : Ending) (w' : World) : Prop :=
  (match toks l with
  | .ok ts => ∃ v, e = .returned (.tuple #[v, .int .i64 0, .int .i64 0]) ∧ w'.ownsRow w.heap.size 40 4 v ts.length (toksCells ts)
  | .err c p => e = .returned (.tuple #[.slice none 0 0, .int .i64 c, .int .i64 p])) ∧ Below w.heap.size w w'

theorem own_setw {w : World} {B e size n b o : Nat} {v u : Value} {xs : List Value} (h : w.ownsRow B e size v n xs) (hb : v.ownBlock ≠ some b) : (w.setCell ⟨b, o, none⟩ u).ownsRow B e size v n xs :=
  h.kept (row := some b) ⟨rfl, rfl, rfl, by simp [World.setCell], fun k _ hk => Below.heap_setCell _ _ _ _ (fun e => hk (by simp [e]))⟩ (.inr hb)
theorem own_lower {w : World} {B B' e size n : Nat} {v : Value} {xs : List Value} (h : w.ownsRow B e size v n xs) (hb : B' ≤ B) : w.ownsRow B' e size v n xs := by
  refine ⟨h.1, ?_⟩
  rcases h.2 with h2 | ⟨g, cap, cur, hv, hg, r⟩
  · exact .inl h2
  · exact .inr ⟨g, cap, cur, hv, Nat.le_trans hb hg, r⟩

theorem two_new {w w1 : World} {o1 o2 : Obj} (hb : Below ((w.alloc o1).alloc o2).heap.size ((w.alloc o1).alloc o2) w1) : w1.heap[w.heap.size]? = some o1 ∧ w1.heap[w.heap.size + 1]? = some o2 := by
  constructor
  · rw [hb.block _ (by simp; omega), Below.heap_alloc _ _ _ (by simp)]; exact heap_alloc_new w o1
  · rw [hb.block _ (by simp)]
    have := heap_alloc_new (w.alloc o1) o2
    simpa using this
theorem two_below {w w1 : World} {o1 o2 : Obj} (hb : Below ((w.alloc o1).alloc o2).heap.size ((w.alloc o1).alloc o2) w1) : Below w.heap.size w w1 :=
  (((Below.refl _ w).alloc (Nat.le_refl _) o1).alloc (by simp) o2).trans (hb.mono (by simp; omega))

theorem GuardEnd.below {w w1 w2 : World} {c a : Int} {o1 o2 : Obj} (hg : GuardEnd w.heap.size (w.heap.size + 1) c a w1 w2) (hb : Below ((w.alloc o1).alloc o2).heap.size ((w.alloc o1).alloc o2) w1) : Below w.heap.size w w2 := by
  have h1 := two_below hb
  exact ⟨hg.os.trans h1.os, hg.tape.trans h1.tape, hg.output.trans h1.output, Nat.le_trans h1.size hg.size, fun k hk => (hg.block k (Nat.lt_of_lt_of_le hk h1.size) (by omega) (by omega)).trans (h1.block k hk)⟩

set_option maxRecDepth 100000 in
set_option maxHeartbeats 4000000 in
theorem f24_any (s : ByteArray) (hs : s.size ≤ maxLen) (w : World) :
    Calls Tryd.prog 24 #[.string s] w (TokensPost (bts s) w) := by
  have h26 := f26_any s hs
  cases ht : toks (bts s) with
  | ok ts =>
    have H26 : Hid (∀ w, Calls Tryd.prog 26 #[.string s] w fun e w' => ∃ v, e = .returned v ∧ w'.ownsRow w.heap.size 40 4 v ts.length (toksCells ts) ∧ Below w.heap.size w w') := Lib.hid (fun w => (h26 w).mono fun e w' h => by unfold ScanPost at h; rw [ht] at h; exact h)
    clear h26
    have HT := Lib.hid ht; clear ht
    go_enter_defers Tryd.func24, Tryd.ntmps24
    go_wp2_with fail
    refine (H26.out _).mono ?_
    rintro e w1 ⟨v, rfl, ho, hb⟩
    obtain ⟨hE, hA⟩ := two_new hb
    have Hb := Lib.hid hb; clear hb
    have Ho := Lib.hid ho; clear ho
    have e0 : w1.cell? ⟨w.heap.size, 0, none⟩ = some (.int .i64 0) := by rw [Lib.cell_of_heap hE]; rfl
    have a0 : w1.cell? ⟨w.heap.size + 1, 0, none⟩ = some (.int .i64 0) := by rw [Lib.cell_of_heap hA]; rfl
    have fe := Lib.frozen_of_heap hE 0
    have fa := Lib.frozen_of_heap hA 0
    have HE := Lib.hid hE; clear hE
    have HA := Lib.hid hA; clear hA
    go_wp2_with fail
    refine leaves_cons (f := 25) (args := #[.pointer (some ⟨w.heap.size, 0, none⟩), .pointer (some ⟨w.heap.size + 1, 0, none⟩)]) (by simp) (by simp [go_sem]) ?_
    refine (guard_idle _ _ _).mono ?_
    rintro e u' w2 ⟨rfl, rfl, rfl⟩
    have hE2 : ((w1.setCell ⟨w.heap.size, 0, none⟩ (.int .i64 0)).setCell ⟨w.heap.size + 1, 0, none⟩ (.int .i64 0)).cell? ⟨w.heap.size, 0, none⟩ = some (.int .i64 0) := by
      rw [World.cell?_of_block (Below.heap_setCell _ _ _ _ (by simp))]; simp [go_sem, e0]
    have hA2 : ((w1.setCell ⟨w.heap.size, 0, none⟩ (.int .i64 0)).setCell ⟨w.heap.size + 1, 0, none⟩ (.int .i64 0)).cell? ⟨w.heap.size + 1, 0, none⟩ = some (.int .i64 0) := by
      have : (w1.setCell ⟨w.heap.size, 0, none⟩ (.int .i64 0)).cell? ⟨w.heap.size + 1, 0, none⟩ = some (.int .i64 0) := by rw [← a0]; exact World.cell?_of_block (Below.heap_setCell _ _ _ _ (by simp))
      simp [go_sem, this]
    refine ⟨.tuple #[v, .int .i64 0, .int .i64 0], by simp [results, Tryd.results24, go_sem, hE2, hA2], ?_⟩
    unfold TokensPost; rw [HT.out]
    refine ⟨⟨v, rfl, ?_⟩, ?_⟩
    · have hne : ∀ b, v.ownBlock = some b → w.heap.size + 2 ≤ b := fun b hb => by have := (Ho.out.lt b hb).1; simpa using this
      exact own_lower (own_setw (own_setw Ho.out (fun e => by have := hne _ e; omega)) (fun e => by have := hne _ e; omega)) (by simp; omega)
    · exact ((two_below Hb.out).setCell (p := ⟨w.heap.size, 0, none⟩) (Nat.le_refl _) _).setCell (p := ⟨w.heap.size + 1, 0, none⟩) (by simp) _
  | err c p =>
    have H26 : Hid (∀ w, Calls Tryd.prog 26 #[.string s] w fun e w' => e = faultE c p ∧ Below w.heap.size w w') := Lib.hid (fun w => (h26 w).mono fun e w' h => by unfold ScanPost at h; rw [ht] at h; exact h)
    clear h26
    have HT := Lib.hid ht; clear ht
    go_enter_defers Tryd.func24, Tryd.ntmps24
    go_wp2_with fail
    refine (H26.out _).mono ?_
    rintro e w1 ⟨rfl, hb⟩
    obtain ⟨hE, hA⟩ := two_new hb
    have e0 : w1.cell? ⟨w.heap.size, 0, none⟩ = some (.int .i64 0) := by rw [Lib.cell_of_heap hE]; rfl
    have a0 : w1.cell? ⟨w.heap.size + 1, 0, none⟩ = some (.int .i64 0) := by rw [Lib.cell_of_heap hA]; rfl
    refine leaves_cons (f := 25) (args := #[.pointer (some ⟨w.heap.size, 0, none⟩), .pointer (some ⟨w.heap.size + 1, 0, none⟩)]) (by simp) (by simp [go_sem]) ?_
    refine (guard_panicking _ _ 0 0 c p [] _ e0 a0 (Lib.frozen_of_heap hE 0) (Lib.frozen_of_heap hA 0) (by omega)).mono ?_
    rintro e u' w2 ⟨rfl, rfl, hg⟩
    have he := hg.he
    have ha := hg.ha
    refine ⟨.tuple #[.slice none 0 0, .int .i64 c, .int .i64 p], by simp [results, Tryd.results24, go_sem, he, ha], ?_⟩
    unfold TokensPost; rw [HT.out]
    exact ⟨rfl, hg.below hb⟩
end Go.Proofs.YtcaaadhhaanbcaaDoor
