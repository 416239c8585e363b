/- The region that takes a step out of a row of steps into a variable of its own, in one law. -/
import Derived.Test.YtneofdapleakpaaDoorDb
import Derived.Deep.MidRow
import Derived.Deep.WholeRow
namespace Go.Proofs.YtneofdapleakpaaDoor
open Go.RowKit

theorem value_step {P : Program} {o : Oper} {a : Act} {w : World} {K : Act → World → Prop} {Q : Exit → Act → World → Prop} (v : Value) (w' : World)
    (h : (execOp a.eval o).run P w = .ok (.value v) w') (hK : K (a.put o.dst v) w') : o.wp P a w K Q := by
  unfold Oper.wp; rw [h]; exact hK
theorem skip_step {P : Program} {o : Oper} {a : Act} {w : World} {K : Act → World → Prop} {Q : Exit → Act → World → Prop} (w' : World)
    (h : (execOp a.eval o).run P w = .ok .skip w') (hK : K (a.put o.dst undef) w') : o.wp P a w K Q := by
  unfold Oper.wp; rw [h]; exact hK

theorem load36 {S b o : Nat} {w : World} {s : St} (hs : StepAt S w b o s) :
    (Instr.loadAt 36 (.pointer (some ⟨b, o, none⟩))).run Tryd.prog w = .ok (.agg s.cells) w :=
  run_loadAt_mid w b o 36 s.cells.toList _ (fun j v h => hs.cells j v (by simpa using h)) Tryd.underlying36 rfl (by kernel_rfl)

abbrev zero36 : Array Value := #[.int .i64 0, .int .i64 0, .int .i64 0, .slice none 0 0, .int .i64 0, .slice none 0 0, .int .i64 0, .slice none 0 0, .slice none 0 0, .int .i64 0, .int .i64 0, .slice none 0 0, .int .i64 0, .int .i64 0, .int .i64 0, .int .i64 0, .int .i64 0, .slice none 0 0, .slice none 0 0, .slice none 0 0, .slice none 0 0, .int .i64 0, .slice none 0 0]
theorem zeros36 : (∀ w, (zeroValue 36).run Tryd.prog w = .ok (.agg zero36) w) ∧ (Tryd.prog.info? 36).map (·.size) = some 23 := zero_of_info (by kernel_rfl)

theorem store36 (w : World) (s : St) :
    (Instr.storeAt 36 (.pointer (some ⟨w.heap.size, 0, none⟩)) (.agg s.cells)).run Tryd.prog (w.alloc (.cells zero36 36)) = .ok () (w.alloc (.cells s.cells 36)) :=
  run_storeAt_new w 36 zero36 s.cells (by kernel_rfl) rfl (by simp [St.cells, Value.oneCell'])

theorem index22 {b o k len cap : Nat} (w : World) (hk : k < len) : (Instr.indexAt 22 (.slice (some ⟨b, o, none⟩) len cap) (.int .i64 k)).run Tryd.prog w = .ok (.pointer (some ⟨b, o + k * 23, none⟩)) w := by
  have hi : (k : Int) < len := by omega
  simp [go_sem, hi]

theorem alloc36 (w : World) : (Instr.alloc 36 true (.tuple #[])).run Tryd.prog w = .ok (.pointer (some ⟨w.heap.size, 0, none⟩)) (w.alloc (.cells zero36 36)) := by
  have h := zeros36.1 w
  simp [Instr.alloc, h, go_sem]

set_option maxRecDepth 100000 in
theorem wp_elem {S id b o k len cap : Nat} {o0 o1 o2 o3 o4 o5 : Oper} {x0 x1 y1 x2 x4 x5 y5 : Operand} {Q : Exit → Act → World → Prop} {a a1 a2 a3 a4 a5 a6 : Act} {w : World} {s : St}
    (hs : StepAt S w b (o + k * 23) s) (hk : k < len) 
    (g0 : o0.guard = none) (g1 : o1.guard = none) (g2 : o2.guard = none) (g3 : o3.guard = none) (g4 : o4.guard = none) (g5 : o5.guard = none)
    (e0 : o0.op = .move x0) (v0 : a.eval x0 = .int .i64 k) (p0 : a.put o0.dst (.int .i64 k) = a1)
    (e1 : o1.op = .indexAddr 22 x1 y1) (v1 : a1.eval x1 = .slice (some ⟨b, o, none⟩) len cap) (w1 : a1.eval y1 = .int .i64 k) (p1 : a1.put o1.dst (.pointer (some ⟨b, o + k * 23, none⟩)) = a2)
    (e2 : o2.op = .load 36 x2) (v2 : a2.eval x2 = .pointer (some ⟨b, o + k * 23, none⟩)) (p2 : a2.put o2.dst (.agg s.cells) = a3)
    (e3 : o3.op = .alloc 36) (p3 : a3.put o3.dst (.pointer (some ⟨w.heap.size, 0, none⟩)) = a4)
    (e4 : o4.op = .assign x4) (v4 : a4.eval x4 = .int .i64 k) (p4 : a4.put o4.dst (.int .i64 k) = a5)
    (e5 : o5.op = .store 36 x5 y5) (v5 : a5.eval x5 = .pointer (some ⟨w.heap.size, 0, none⟩)) (w5 : a5.eval y5 = .agg s.cells) (p5 : a5.put o5.dst undef = a6)
    (h : Q .normal a6 (w.alloc (.cells s.cells 36))) :
    (Code.region id #[o0, o1, o2, o3, o4, o5] false).wp Tryd.prog Q a w := by
  refine wp_region_list ?_
  refine wpList_plain g0 fun K hK => value_step (.int .i64 k) w (by simp [execOp, e0, v0]) (hK _ _ ?_)
  rw [p0]; clear K hK
  refine wpList_plain g1 fun K hK => value_step (.pointer (some ⟨b, o + k * 23, none⟩)) w (by
    unfold execOp
    simp only [e1, v1, w1, Sem.run_bind, index22 w hk, Result.andThen_ok, Sem.run_pure]) (hK _ _ ?_)
  rw [p1]; clear K hK
  refine wpList_plain g2 fun K hK => value_step (.agg s.cells) w (by
    unfold execOp
    simp only [e2, v2, Sem.run_bind, load36 hs, Result.andThen_ok, Sem.run_pure]) (hK _ _ ?_)
  rw [p2]; clear K hK
  refine wpList_plain g3 fun K hK => value_step (.pointer (some ⟨w.heap.size, 0, none⟩)) (w.alloc (.cells zero36 36)) (by
    unfold execOp
    simp only [e3, Sem.run_bind, alloc36 w, Result.andThen_ok, Sem.run_pure]) (hK _ _ ?_)
  rw [p3]; clear K hK
  refine wpList_plain g4 fun K hK => value_step (.int .i64 k) (w.alloc (.cells zero36 36)) (by simp [execOp, e4, v4]) (hK _ _ ?_)
  rw [p4]; clear K hK
  refine wpList_plain g5 fun K hK => skip_step (w.alloc (.cells s.cells 36)) (by
    unfold execOp
    simp only [e5, v5, w5, Sem.run_bind, store36 w s, Result.andThen_ok, Sem.run_pure]) (hK _ _ ?_)
  rw [p5]
  exact h
end Go.Proofs.YtneofdapleakpaaDoor
