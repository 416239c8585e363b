/- The walk of the reference's Text. -/
import Derived.Test.YtneofdapleakpaaDoorDc
namespace Go.Proofs.YtneofdapleakpaaDoor
open Go.RowKit

set_option maxRecDepth 100000 in
theorem wp_elem2 {S id b o k len cap : Nat} {o0 o1 o2 o3 o4 o5 : Oper} {x0 y0 x1 y1 x2 x5 y5 : Operand} {Q : Exit → Act → World → Prop} {a a1 a2 a3 a4 a5 a6 : Act} {w : World} {s : St}
    (hs : StepAt S w b (o + k * 23) s) (hk : k < len)
    (g0 : o0.guard = none) (g1 : o1.guard = none) (g2 : o2.guard = none) (g3 : o3.guard = none) (g4 : o4.guard = none) (g5 : o5.guard = none)
    (e0 : o0.op = .move x0) (v0 : a.eval x0 = .slice (some ⟨b, o, none⟩) len cap) (p0 : a.put o0.dst (.slice (some ⟨b, o, none⟩) len cap) = a1)
    (e1 : o1.op = .move y0) (v1 : a1.eval y0 = .int .i64 k) (p1 : a1.put o1.dst (.int .i64 k) = a2)
    (e2 : o2.op = .indexAddr 22 x1 y1) (v2 : a2.eval x1 = .slice (some ⟨b, o, none⟩) len cap) (w2 : a2.eval y1 = .int .i64 k) (p2 : a2.put o2.dst (.pointer (some ⟨b, o + k * 23, none⟩)) = a3)
    (e3 : o3.op = .load 36 x2) (v3 : a3.eval x2 = .pointer (some ⟨b, o + k * 23, none⟩)) (p3 : a3.put o3.dst (.agg s.cells) = a4)
    (e4 : o4.op = .alloc 36) (p4 : a4.put o4.dst (.pointer (some ⟨w.heap.size, 0, none⟩)) = a5)
    (e5 : o5.op = .store 36 x5 y5) (v5 : a5.eval x5 = .pointer (some ⟨w.heap.size, 0, none⟩)) (w5 : a5.eval y5 = .agg s.cells) (p5 : a5.put o5.dst undef = a6)
    (h : Q .normal a6 (w.alloc (.cells s.cells 36))) :
    (Code.region id #[o0, o1, o2, o3, o4, o5] false).wp Tryd.prog Q a w := by
  refine wp_region_list ?_
  refine wpList_plain g0 fun K hK => value_step (.slice (some ⟨b, o, none⟩) len cap) w (by simp [execOp, e0, v0]) (hK _ _ ?_)
  rw [p0]; clear K hK
  refine wpList_plain g1 fun K hK => value_step (.int .i64 k) w (by simp [execOp, e1, v1]) (hK _ _ ?_)
  rw [p1]; clear K hK
  refine wpList_plain g2 fun K hK => value_step (.pointer (some ⟨b, o + k * 23, none⟩)) w (by
    unfold execOp
    simp only [e2, v2, w2, Sem.run_bind, index22 w hk, Result.andThen_ok, Sem.run_pure]) (hK _ _ ?_)
  rw [p2]; clear K hK
  refine wpList_plain g3 fun K hK => value_step (.agg s.cells) w (by
    unfold execOp
    simp only [e3, v3, Sem.run_bind, load36 hs, Result.andThen_ok, Sem.run_pure]) (hK _ _ ?_)
  rw [p3]; clear K hK
  refine wpList_plain g4 fun K hK => value_step (.pointer (some ⟨w.heap.size, 0, none⟩)) (w.alloc (.cells zero36 36)) (by
    unfold execOp
    simp only [e4, Sem.run_bind, alloc36 w, Result.andThen_ok, Sem.run_pure]) (hK _ _ ?_)
  rw [p4]; clear K hK
  refine wpList_plain g5 fun K hK => skip_step (w.alloc (.cells s.cells 36)) (by
    unfold execOp
    simp only [e5, v5, w5, Sem.run_bind, store36 w s, Result.andThen_ok, Sem.run_pure]) (hK _ _ ?_)
  rw [p5]
  exact h

set_option maxRecDepth 100000 in
set_option maxHeartbeats 16000000 in
theorem f5_any (w : World) (v : Value) (l : List St) (hv : RSt w.heap.size w v l) (hf : fewSt l) :
    Calls Tryd.prog 5 #[v] w fun e w' => e = .returned (strV (txt l 0)) ∧ Below w.heap.size w w' := by
  have hv' := hv
  obtain ⟨a, cap, rfl, hc1, hc2, -⟩ := hv'
  have HV := Lib.hid hv; clear hv
  obtain ⟨hl40, hl100⟩ := hf
  have HL := Lib.hid hl100; clear hl100
  have HB0 := Lib.hid (Below.refl w.heap.size w)
  have HI : Hid (∀ (n : Int) W, -9223372036854775808 ≤ n → n ≤ 9223372036854775807 → Calls Tryd.prog 9 #[.int .i64 n] W fun e w' => e = .returned (strV (Lib.itoa n)) ∧ W = w') := Lib.hid (fun n W h0 h1 => f9_any n h0 h1 W)
  have HW : Hid (∀ (r : Int) W, Calls Tryd.prog 10 #[.int .i64 r] W fun e w' => e = .returned (strV (nameL r)) ∧ Below W.heap.size W w') := Lib.hid (fun r W => f10_any r W)
  go_enter Tryd.func5, Tryd.ntmps5
  go_wp2_with fail
  go_loopw [3, 4] (fun s3 i wr => ∃ k : Nat, k ≤ l.length ∧ s3 = strV (txt (l.take k) 0) ∧ i = .int .i64 k ∧ Below w.heap.size w wr ∧ (txt (l.take k) 0).length ≤ 3000 * k) (fun _ i _ => l.length - (intOf i).toNat)
  case atStart => exact ⟨0, by omega, by simp [txt], rfl, HB0.out, by simp [txt]⟩
  case round =>
    obtain ⟨k, hk, rfl, rfl, hbel, hlen⟩ := hrel
    by_cases hlt : k < l.length
    · obtain ⟨_, _, hvs, _, _, hst⟩ := HV.out
      obtain ⟨rfl, -, rfl⟩ := Value.slice.inj hvs
      obtain ⟨b, o, rfl, hs0⟩ := hst k hlt
      have hs := hs0.later hbel
      have HRI := Lib.hid hs0.frm
      clear hvs hst hs0
      have h100 := HL.out k hlt
      have HT : Hid (txt (l.take (k + 1)) 0 = txt (l.take k) 0 ++ (lineH k l[k] ++ fromS l[k].frm 0 ++ [10])) := Lib.hid (by
        rw [List.take_succ_eq_append_getElem hlt, txt_snoc, List.length_take, Nat.zero_add, Nat.min_eq_left hk])
      generalize l[k] = s at *
      generalize txt (l.take k) 0 = acc at *
      have hcapF := RI_cap hs.frm
      have hlh := lineH_len k (by omega) s hs.ranges
      have HLH : Hid ((lineH k s).length ≤ 300) := Lib.hid hlh
      clear hlh
      obtain ⟨⟨rp1, rp2⟩, ⟨rm1, rm2⟩, ⟨rn1, rn2⟩, ⟨rl1, rl2⟩, hgl⟩ := hs.ranges
      have a0 := Lib.itoa_length_le (k : Int) (by omega) (by omega)
      have a1 := Lib.itoa_length_le s.n rn1 rn2
      have a2 := Lib.itoa_length_le (s.gl : Int) (by omega) (by omega)
      have a3 := Lib.itoa_length_le s.p rp1 rp2
      have a4 := Lib.itoa_length_le s.m rm1 rm2
      have a5 := Lib.itoa_length_le s.low rl1 rl2
      have a6 := nameL_len s.rule
      have HBOX : Hid (∀ WB, wr.alloc (.cells s.cells 36) = WB → wr.heap.size < WB.heap.size ∧ Below w.heap.size w WB ∧ ∀ W, Below WB.heap.size WB W → (W.cell? ⟨wr.heap.size, 0, none⟩ = some (.int .i64 s.rule) ∧ W.cell? ⟨wr.heap.size, 1, none⟩ = some (.int .i64 s.p) ∧ W.cell? ⟨wr.heap.size, 2, none⟩ = some (.int .i64 s.m) ∧ W.cell? ⟨wr.heap.size, 4, none⟩ = some (.int .i64 s.n) ∧ W.cell? ⟨wr.heap.size, 5, none⟩ = some (.slice s.ga s.gl s.gc) ∧ W.cell? ⟨wr.heap.size, 6, none⟩ = some (.int .i64 s.low) ∧ W.cell? ⟨wr.heap.size, 7, none⟩ = some (.slice s.fa s.frm.length s.fc))) := Lib.hid (by
        rintro WB rfl
        refine ⟨by simp, hbel.alloc (by have := hbel.size; omega) _, fun W hb => ?_⟩
        have h1 : W.heap[wr.heap.size]? = some (.cells s.cells 36) := by rw [hb.block _ (by simp)]; exact heap_alloc_new wr _
        refine ⟨?_, ?_, ?_, ?_, ?_, ?_, ?_⟩ <;> (rw [Lib.cell_of_heap h1]; rfl))
      go_upto_region 5 with fail
      refine wp_elem2 hs hlt rfl rfl rfl rfl rfl rfl rfl rfl rfl rfl rfl rfl rfl rfl rfl rfl rfl rfl rfl rfl rfl rfl rfl rfl rfl ?_
      generalize Value.agg s.cells = v15
      generalize hWB : World.alloc wr _ = WB
      obtain ⟨hwsz, hbw, HSX⟩ := HBOX.out WB hWB
      have hq0 : Below WB.heap.size WB WB.drew := (Below.refl _ _).drew
      have HQ := Lib.hid HSX
      have HBW := Lib.hid hbw
      clear HSX hWB HBOX hs hbw hbel
      obtain ⟨z0, z1, z2, z4, z5, z6, z7⟩ := HQ.out WB (Below.refl _ _)
      generalize s.fa = fa at *
      generalize s.frm = frm at *
      have HLN : Hid (lineH k s = Lib.itoa k ++ [58, 32, 108, 101, 110, 103, 116, 104, 32] ++ Lib.itoa s.n ++ [44, 32, 100, 105, 109, 101, 110, 115, 105, 111, 110, 32] ++ Lib.itoa s.gl ++ [44, 32, 102, 105, 101, 108, 100, 32] ++ Lib.itoa s.p ++ [94] ++ Lib.itoa s.m ++ [44, 32, 119, 101, 105, 103, 104, 116, 32, 97, 116, 32, 108, 101, 97, 115, 116, 32] ++ Lib.itoa s.low ++ [44, 32, 98, 121, 32] ++ nameL s.rule) := Lib.hid rfl
      generalize lineH k s = line at *
      have HNM : Hid (∀ W, Calls Tryd.prog 10 #[.int .i64 s.rule] W fun e w' => e = .returned (strV (nameL s.rule)) ∧ Below W.heap.size W w') := Lib.hid (HW.out s.rule)
      generalize nameL s.rule = nm at *
      have ik1 : -9223372036854775808 ≤ (k : Int) := by omega
      have ik2 : (k : Int) ≤ 9223372036854775807 := by omega
      have ig1 : -9223372036854775808 ≤ (s.gl : Int) := by omega
      have ig2 : (s.gl : Int) ≤ 9223372036854775807 := by omega
      have sz2 : ¬ 9223372036854775807 < (Lib.itoa (k : Int)).length + 9 := by omega
      have sz3 : ¬ 9223372036854775807 < (Lib.itoa (k : Int)).length + 9 + (Lib.itoa s.n).length := by omega
      have sz4 : ¬ 9223372036854775807 < (Lib.itoa (k : Int)).length + 9 + (Lib.itoa s.n).length + 12 := by omega
      have sz5 : ¬ 9223372036854775807 < (Lib.itoa (k : Int)).length + 9 + (Lib.itoa s.n).length + 12 + (Lib.itoa (s.gl : Int)).length := by omega
      have sz6 : ¬ 9223372036854775807 < (Lib.itoa (k : Int)).length + 9 + (Lib.itoa s.n).length + 12 + (Lib.itoa (s.gl : Int)).length + 8 := by omega
      have sz7 : ¬ 9223372036854775807 < (Lib.itoa (k : Int)).length + 9 + (Lib.itoa s.n).length + 12 + (Lib.itoa (s.gl : Int)).length + 8 + (Lib.itoa s.p).length := by omega
      have sz8 : ¬ 9223372036854775807 < (Lib.itoa (k : Int)).length + 9 + (Lib.itoa s.n).length + 12 + (Lib.itoa (s.gl : Int)).length + 8 + (Lib.itoa s.p).length + 1 := by omega
      have sz9 : ¬ 9223372036854775807 < (Lib.itoa (k : Int)).length + 9 + (Lib.itoa s.n).length + 12 + (Lib.itoa (s.gl : Int)).length + 8 + (Lib.itoa s.p).length + 1 + (Lib.itoa s.m).length := by omega
      have sz10 : ¬ 9223372036854775807 < (Lib.itoa (k : Int)).length + 9 + (Lib.itoa s.n).length + 12 + (Lib.itoa (s.gl : Int)).length + 8 + (Lib.itoa s.p).length + 1 + (Lib.itoa s.m).length + 18 := by omega
      have sz11 : ¬ 9223372036854775807 < (Lib.itoa (k : Int)).length + 9 + (Lib.itoa s.n).length + 12 + (Lib.itoa (s.gl : Int)).length + 8 + (Lib.itoa s.p).length + 1 + (Lib.itoa s.m).length + 18 + (Lib.itoa s.low).length := by omega
      have sz12 : ¬ 9223372036854775807 < (Lib.itoa (k : Int)).length + 9 + (Lib.itoa s.n).length + 12 + (Lib.itoa (s.gl : Int)).length + 8 + (Lib.itoa s.p).length + 1 + (Lib.itoa s.m).length + 18 + (Lib.itoa s.low).length + 5 := by omega
      have sz13 : ¬ 9223372036854775807 < (Lib.itoa (k : Int)).length + 9 + (Lib.itoa s.n).length + 12 + (Lib.itoa (s.gl : Int)).length + 8 + (Lib.itoa s.p).length + 1 + (Lib.itoa s.m).length + 18 + (Lib.itoa s.low).length + 5 + nm.length := by omega
      have szl : ¬ 9223372036854775807 < acc.length + ((Lib.itoa (k : Int)).length + 9 + (Lib.itoa s.n).length + 12 + (Lib.itoa (s.gl : Int)).length + 8 + (Lib.itoa s.p).length + 1 + (Lib.itoa s.m).length + 18 + (Lib.itoa s.low).length + 5 + nm.length) := by omega
      have HLEN := Lib.hid hlen
      have hk40 : k < 40 := by omega
      clear a0 a1 a2 a3 a4 a5 a6 hlen hl40
      go_wp2_with fail
      go_region_held3 (fun w' => w'.cell? ⟨wr.heap.size, 0, none⟩ = some (.int .i64 s.rule) ∧ w'.cell? ⟨wr.heap.size, 1, none⟩ = some (.int .i64 s.p) ∧ w'.cell? ⟨wr.heap.size, 2, none⟩ = some (.int .i64 s.m) ∧ w'.cell? ⟨wr.heap.size, 4, none⟩ = some (.int .i64 s.n) ∧ w'.cell? ⟨wr.heap.size, 5, none⟩ = some (.slice s.ga s.gl s.gc) ∧ w'.cell? ⟨wr.heap.size, 6, none⟩ = some (.int .i64 s.low) ∧ w'.cell? ⟨wr.heap.size, 7, none⟩ = some (.slice fa frm.length s.fc))
        (first
          | exact HQ.out _ hq7
          | exact HQ.out _ hq0
          | go_keep)
        ((first
          | (go_at_call 10; refine (HNM.out _).mono ?_; rintro e w7 ⟨rfl, hqq⟩; have hq7 := hq0.trans (hqq.mono hq0.size); clear hqq)
          | (go_at_call 9; refine (HI.out _ _ (by assumption) (by assumption)).mono ?_; rintro e w6 ⟨rfl, rfl⟩)
          ))
      simp only [bapp]
      rw [← HLN.out]
      generalize (Lib.itoa (k : Int)) ++ [58, 32, 108, 101, 110, 103, 116, 104, 32] = t0
      generalize t0 ++ Lib.itoa s.n = t1
      generalize t1 ++ [44, 32, 100, 105, 109, 101, 110, 115, 105, 111, 110, 32] = t2
      generalize t2 ++ Lib.itoa (s.gl : Int) = t3
      generalize t3 ++ [44, 32, 102, 105, 101, 108, 100, 32] = t4
      generalize t4 ++ Lib.itoa s.p = t5
      generalize t5 ++ [94] = t6
      generalize t6 ++ Lib.itoa s.m = t7
      generalize t7 ++ [44, 32, 119, 101, 105, 103, 104, 116, 32, 97, 116, 32, 108, 101, 97, 115, 116, 32] = t8
      generalize t8 ++ Lib.itoa s.low = t9
      generalize t9 ++ [44, 32, 98, 121, 32] = t10
      have HB7 := Lib.hid (HBW.out.trans (hq7.mono HBW.out.size))
      have HQ7 : Hid (∀ W, Below w7.heap.size w7 W → W.cell? ⟨wr.heap.size, 7, none⟩ = some (.slice fa frm.length s.fc)) := Lib.hid (fun W hb => (HQ.out W (hq7.trans (hb.mono hq7.size))).2.2.2.2.2.2)
      clear hq0 hq7 sz2 sz3 sz4 sz5 sz6 sz7 sz8 sz9 sz10 sz11 sz12 sz13 szl z0 z1 z2 z4 z5 z6 z7
      go_wp2_with fail
      go_loopw [3, 6] (fun s3 i wr2 => ∃ j : Nat, j ≤ frm.length ∧ s3 = strV (acc ++ line ++ fromS (frm.take j) 0) ∧ i = .int .i64 j ∧ Below w7.heap.size w7 wr2) (fun _ i _ => frm.length - (intOf i).toNat)
      case atStart => exact ⟨0, by omega, by simp [fromS], rfl, Below.refl _ _⟩
      case round =>
        obtain ⟨j, hj, rfl, rfl, hb2⟩ := hrel
        have hlf := fromS_len (frm.take j) 0 (fun z hz => by
          obtain ⟨i, hi, rfl⟩ := List.getElem_of_mem (List.mem_of_mem_take hz)
          exact (RI_frm HRI.out i hi).choose_spec.choose_spec.2.2.2)
        have hlen := HLEN.out
        have hlA : (acc ++ line ++ fromS (frm.take j) 0).length ≤ 200000 := by
          have := HLH.out
          rw [List.length_take] at hlf
          simp only [List.length_append]; omega
        have c7 := HQ7.out _ hb2
        by_cases hjl : j < frm.length
        · obtain ⟨b2, o2, rfl, hb2', hc2', hrz1, hrz2⟩ := RI_frm (HRI.out.later (HB7.out.trans (hb2.mono HB7.out.size))) j hjl
          have HB2 := Lib.hid hb2; clear hb2
          have HJ : Hid (fromS (frm.take (j + 1)) 0 = fromS (frm.take j) 0 ++ (if j = 0 then [32, 111, 102, 32] else [44, 32]) ++ Lib.itoa frm[j]) := Lib.hid (by
            rw [List.take_succ_eq_append_getElem hjl, fromS_snoc, List.length_take, Nat.zero_add, Nat.min_eq_left hj])
          have hiz := Lib.itoa_length_le frm[j] hrz1 hrz2
          generalize frm[j] = z at *
          have HCUR : Hid (∀ x, acc ++ (line ++ (fromS (frm.take j) 0 ++ x)) = (acc ++ line ++ fromS (frm.take j) 0) ++ x) := Lib.hid (fun x => by simp only [List.append_assoc])
          generalize acc ++ line ++ fromS (frm.take j) 0 = cur at hlA HCUR ⊢
          have s4 : ¬ 9223372036854775807 < cur.length + 4 := by omega
          have s2 : ¬ 9223372036854775807 < cur.length + 2 := by omega
          have s4z : ¬ 9223372036854775807 < cur.length + 4 + (Lib.itoa z).length := by omega
          have s2z : ¬ 9223372036854775807 < cur.length + 2 + (Lib.itoa z).length := by omega
          by_cases hj0 : (j : Int) = 0
          · obtain rfl : j = 0 := by omega
            simp only [Nat.add_zero] at hc2'
            clear hj0
            go_wp2_with fail
            refine (HI.out z _ hrz1 hrz2).mono ?_
            rintro e w9 ⟨rfl, rfl⟩
            go_wp2_with fail
            refine ⟨⟨0 + 1, by omega, ?_, by go_num, HB2.out⟩, by simp [intOf]; omega⟩
            rw [HJ.out, if_pos trivial]
            simp only [bapp, List.append_assoc]
            rw [HCUR.out]
          · go_wp2_with fail
            refine (HI.out z _ hrz1 hrz2).mono ?_
            rintro e w9 ⟨rfl, rfl⟩
            go_wp2_with fail
            refine ⟨⟨j + 1, by omega, ?_, by go_num, HB2.out⟩, by simp [intOf]; omega⟩
            rw [HJ.out, if_neg (by omega)]
            simp only [bapp, List.append_assoc]
            rw [HCUR.out]
        · obtain rfl : j = frm.length := by omega
          rw [List.take_length] at *
          have HB2 := Lib.hid hb2; clear hb2
          have s1 : ¬ 9223372036854775807 < (acc ++ line ++ fromS frm 0).length + 1 := by omega
          have HLA := Lib.hid hlA; clear hlA
          generalize hcur : acc ++ line ++ fromS frm 0 = cur at *
          go_wp2_with fail
          refine ⟨⟨k + 1, by omega, ?_, by go_num, HB7.out.trans (HB2.out.mono HB7.out.size), ?_⟩, by simp [intOf]; omega⟩
          · rw [HT.out, ← hcur]; simp only [bapp, List.append_assoc]
          · rw [HT.out]
            have h1 := HLA.out
            have h2 := HLH.out
            have h3 := congrArg List.length hcur
            simp only [List.length_append, List.length_cons, List.length_nil] at h1 h3 ⊢; omega
    · have hkl : k = l.length := by omega
      subst hkl
      rw [List.take_length] at *
      have HB := Lib.hid hbel
      clear hbel
      go_wp2_with fail
      go_ret
      exact ⟨rfl, HB.out⟩
end Go.Proofs.YtneofdapleakpaaDoor
