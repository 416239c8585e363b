/- The walk of the deferred guard: a fault that is recovered is laid into the two results; where nothing panics nothing turns. -/
import Derived.Test.YtcaaadhhaanbcaaDoorWe
namespace Go.Proofs.YtcaaadhhaanbcaaDoor
open Go.RowKit

structure GuardEnd (pe pa : Nat) (c a : Int) (w w' : World) : Prop where
  os : w'.os = w.os
  tape : w'.tape = w.tape
  output : w'.output = w.output
  size : w.heap.size ≤ w'.heap.size
  block : ∀ k, k < w.heap.size → k ≠ pe → k ≠ pa → w'.heap[k]? = w.heap[k]?
  he : w'.cell? ⟨pe, 0, none⟩ = some (.int .i64 c)
  ha : w'.cell? ⟨pa, 0, none⟩ = some (.int .i64 a)

theorem assertFault (c a : Int) (w : World) : (Instr.typeAssert (faultV c a) 20 73 true).run Tryd.prog w = .ok (.tuple #[.agg #[.int .i64 c, .int .i64 a], .bool true]) w := by kernel_rfl

theorem frame21 (a b u f : Value) : (#[a, b] ++ (Array.replicate 19 u).setIfInBounds 5 f) = #[a, b, u, u, u, u, u, f, u, u, u, u, u, u, u, u, u, u, u, u, u] := by
  apply Array.ext'
  simp [Array.toList_setIfInBounds, List.replicate]

set_option maxRecDepth 100000 in
set_option maxHeartbeats 400000 in
theorem guard_panicking (pe pa : Nat) (x y c a : Int) (older : List PanicEntry) (w : World) (he : w.cell? ⟨pe, 0, none⟩ = some (.int .i64 x)) (ha : w.cell? ⟨pa, 0, none⟩ = some (.int .i64 y))
    (ze : w.frozen? ⟨pe, 0, none⟩ = false) (za : w.frozen? ⟨pa, 0, none⟩ = false) (hne : ¬ pe = pa) :
    CallsD Tryd.prog 25 #[.pointer (some ⟨pe, 0, none⟩), .pointer (some ⟨pa, 0, none⟩)] (.panicking ({ v := faultV c a, recovered := false } :: older)) w fun e u' w' =>
      e = .returned (.tuple #[]) ∧ u' = .panicking ({ v := faultV c a, recovered := true } :: older) ∧ GuardEnd pe pa c a w w' := by
  refine callsD_of_wpS Tryd.func25 rfl fun c₀ cs hu => ?_
  apply wpS_seq
  apply wpS_region
  simp [wpOpsS, go_sem, recoverD, hu, Tryd.ntmps25, Exit.thenS]
  have HU := Lib.hid hu; clear hu
  rw [frame21]
  refine wpS_of_wp (wp_mono (Q := fun e a' w' => e = .normal ∧ a'.defers = [] ∧ GuardEnd pe pa c a w w') ?_ ?_)
  · have hta := assertFault c a
    have hle := World.block_lt_of_cell? w _ he
    have hla := World.block_lt_of_cell? w _ ha
    have hle' : pe < w.heap.size := hle
    have hla' : pa < w.heap.size := hla
    clear hle hla
    have hne2 : ¬ pa = pe := fun e => hne e.symm
    go_wp2_with fail
    go_region
    go_wp2_with fail
    refine ⟨rfl, rfl, rfl, by simp [World.setCell], fun k hk h1 h2 => ?_, ?_, ?_⟩
    · exact (Below.heap_alloc _ _ _ (by simp [World.setCell]; exact hk)).trans ((Below.heap_setCell _ _ _ _ h2).trans (Below.heap_setCell _ _ _ _ h1))
    · refine (World.cell?_of_block (Below.heap_alloc _ _ _ (by simp [World.setCell]; exact hle'))).trans ((World.cell?_of_block (Below.heap_setCell _ _ _ _ hne)).trans ?_)
      simp [go_sem, he]
    · refine (World.cell?_of_block (Below.heap_alloc _ _ _ (by simp [World.setCell]; exact hla'))).trans ?_
      have : (w.setCell ⟨pe, 0, none⟩ (.int .i64 c)).cell? ⟨pa, 0, none⟩ = some (.int .i64 y) := by
        rw [← ha]; exact World.cell?_of_block (Below.heap_setCell _ _ _ _ hne2)
      simp [go_sem, this]
  · rintro e a' w' ⟨rfl, hd, hg⟩
    exact ⟨hd, _, rfl, .tuple #[], by simp [results, Tryd.results25], rfl, rfl, hg⟩
theorem frame21n (a b u : Value) : (#[a, b] ++ (Array.replicate 19 u).setIfInBounds 5 .nilIface) = #[a, b, u, u, u, u, u, .nilIface, u, u, u, u, u, u, u, u, u, u, u, u, u] := frame21 a b u _

set_option maxRecDepth 100000 in
set_option maxHeartbeats 4000000 in
theorem guard_idle (pe pa : Nat) (w : World) :
    CallsD Tryd.prog 25 #[.pointer (some ⟨pe, 0, none⟩), .pointer (some ⟨pa, 0, none⟩)] .returning w fun e u' w' => e = .returned (.tuple #[]) ∧ u' = .returning ∧ w' = w := by
  refine callsD_of_wpS Tryd.func25 rfl fun c₀ cs hu => ?_
  apply wpS_seq
  apply wpS_region
  simp [wpOpsS, go_sem, recoverD, hu, Tryd.ntmps25, Exit.thenS]
  rw [frame21n]
  refine wpS_of_wp (wp_mono (Q := fun e a' w' => e = .normal ∧ a'.defers = [] ∧ w' = w) ?_ ?_)
  · clear hu
    go_wp2_with fail
  · rintro e a' w' ⟨rfl, hd, rfl⟩
    exact ⟨hd, .returning, by rw [← hu], .tuple #[], by simp [results, Tryd.results25], rfl, rfl, rfl⟩
end Go.Proofs.YtcaaadhhaanbcaaDoor
