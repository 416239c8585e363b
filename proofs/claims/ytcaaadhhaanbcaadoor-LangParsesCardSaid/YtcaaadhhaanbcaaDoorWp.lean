/- The walk of the writer. -/
import Derived.Test.YtcaaadhhaanbcaaDoorWo
namespace Go.Proofs.YtcaaadhhaanbcaaDoor
open Go.RowKit

theorem joinInts_mono (zs : List Int) (acc : List UInt8) {i j : Nat} (h : i ≤ j) : (joinN (intStep zs) i acc).length ≤ (joinN (intStep zs) j acc).length := by
  induction h with
  | refl => exact Nat.le_refl _
  | step _ ih =>
    refine Nat.le_trans ih ?_
    simp only [joinN]
    unfold intStep
    split <;> split <;> simp

abbrev box2 (w : World) (b : Nat) (cs : Array Value) : World := (w.alloc (.cells #[.pointer (some ⟨b, 0, none⟩)] 62)).alloc (.cells cs 26)

theorem box2_below (w : World) (b : Nat) (cs : Array Value) : Below w.heap.size w (box2 w b cs) := ((Below.refl _ _).alloc (Nat.le_refl _) _).alloc (by simp) _
theorem box2_one (w : World) (b : Nat) (cs : Array Value) : (box2 w b cs).heap[w.heap.size]? = some (.cells #[.pointer (some ⟨b, 0, none⟩)] 62 (0, 0)) := by
  unfold box2
  rw [heap_alloc_old _ _ (by simp), heap_alloc_new]
theorem box2_two (w : World) (b : Nat) (cs : Array Value) : (box2 w b cs).heap[w.heap.size + 1]? = some (.cells cs 26 (0, 0)) := by
  have := heap_alloc_new (w.alloc (.cells #[.pointer (some ⟨b, 0, none⟩)] 62)) (.cells cs 26)
  simpa using this

def WriteSays (m : Nat) : Prop := ∀ (x : Ex) (cs : Array Value) (w0 w : World) (B b : Nat) (acc : List UInt8), nodes x ≤ m → fine x → XV (Lt B) w0 x cs → Tab B w0 → BS B b w0 w acc → b < w.heap.size →
    acc.length + (wtx x).length + 100 ≤ 140737488355328 → Calls Tryd.prog 35 #[.pointer (some ⟨b, 0, none⟩), .agg cs] w fun e w' => e = .returned (.tuple #[]) ∧ BS B b w0 w' (wr x acc)

theorem BS.lt {B b : Nat} {w0 w : World} {acc : List UInt8} (h : BS B b w0 w acc) : b < w.heap.size := by
  rcases h.bld with h | h <;> exact h.lt

set_option maxRecDepth 100000 in
set_option maxHeartbeats 8000000 in
theorem f35_step (m : Nat) (ih : WriteSays m) : WriteSays (m + 1) := by
  intro x cs w0 w B b acc hm hf hx ht h hbl hlen
  have hmf : ∀ (fn : Fn) (first cap : Array Value) (w : World), (Instr.makeFunc fn first cap).run Tryd.prog w = .ok (.func fn first cap) w := fun _ _ _ _ => rfl
  obtain ⟨la, lc, aa, ac, rfl, hl, ha, hlc, hlc2, hac, hac2⟩ := XV_five hx
  clear hx
  obtain ⟨hfn, hfl, hfa⟩ := (fine_iff x).1 hf
  have hne := nodes_eq x
  have hw := wr_eq x acc
  have hwt := wtx_eq x
  have HB2 := Lib.hid (h.later (box2_below w b #[.int .i64 x.kind, strV x.name, .int .i64 x.n, .slice la x.list.length lc, .slice aa x.args.length ac]))
  have HS2 := Lib.hid (fun (w' : World) acc' (hb : BS B b (box2 w b #[.int .i64 x.kind, strV x.name, .int .i64 x.n, .slice la x.list.length lc, .slice aa x.args.length ac]) w' acc') => HB2.out.trans hb)
  have HC : Hid (∀ w' acc', BS B b (box2 w b #[.int .i64 x.kind, strV x.name, .int .i64 x.n, .slice la x.list.length lc, .slice aa x.args.length ac]) w' acc' →
      w'.cell? ⟨w.heap.size, 0, none⟩ = some (.pointer (some ⟨b, 0, none⟩)) ∧ w'.cell? ⟨w.heap.size + 1, 0, none⟩ = some (.int .i64 x.kind) ∧ w'.cell? ⟨w.heap.size + 1, 1, none⟩ = some (strV x.name) ∧
      w'.cell? ⟨w.heap.size + 1, 2, none⟩ = some (.int .i64 x.n) ∧ w'.cell? ⟨w.heap.size + 1, 3, none⟩ = some (.slice la x.list.length lc) ∧ w'.cell? ⟨w.heap.size + 1, 4, none⟩ = some (.slice aa x.args.length ac)) := Lib.hid (by
    intro w' acc' hb
    refine ⟨?_, ?_, ?_, ?_, ?_, ?_⟩
    · rw [Lib.cell_of_heap (hb.heap (box2_one w b _) (by omega) (by decide))]; rfl
    all_goals (rw [Lib.cell_of_heap (hb.heap (box2_two w b _) (by omega) (by decide))]; rfl))
  have HL := Lib.hid (RInts_later hl (h.below.trans ((box2_below w b #[.int .i64 x.kind, strV x.name, .int .i64 x.n, .slice la x.list.length lc, .slice aa x.args.length ac]).mono h.bw)) (Nat.le_refl _))
  have HA := Lib.hid (RArgs_later ha (h.below.trans ((box2_below w b #[.int .i64 x.kind, strV x.name, .int .i64 x.n, .slice la x.list.length lc, .slice aa x.args.length ac]).mono h.bw)) (Nat.le_refl _))
  have HT := Lib.hid (Lib.TabBelow.on ht (h.below.trans ((box2_below w b #[.int .i64 x.kind, strV x.name, .int .i64 x.n, .slice la x.list.length lc, .slice aa x.args.length ac]).mono h.bw)))
  have H1 := Lib.hid (box2_one w b #[.int .i64 x.kind, strV x.name, .int .i64 x.n, .slice la x.list.length lc, .slice aa x.args.length ac])
  have H2 := Lib.hid (box2_two w b #[.int .i64 x.kind, strV x.name, .int .i64 x.n, .slice la x.list.length lc, .slice aa x.args.length ac])
  have HF := Lib.hid hf; clear hf
  have HFL := Lib.hid hfl; clear hfl
  have HFA := Lib.hid hfa; clear hfa
  have HB0 := Lib.hid HB2.out.refl
  have IH := Lib.hid ih; clear ih
  have HW := Lib.hid hw; clear hw
  have HWT := Lib.hid hwt; clear hwt
  clear hl ha ht
  have h36 := Lib.hid (bs_len HB2.out)
  have HH := Lib.hid h; clear h
  by_cases hbig : 65536 < acc.length
  · go_enter Tryd.func35, Tryd.ntmps35
    go_wp2_with fail
    refine h36.out.mono ?_
    rintro e w' ⟨rfl, rfl⟩
    go_wp2_with fail
    refine bodyPost_ret (results_none rfl _ _ _) rfl ?_
    refine ⟨rfl, ?_⟩
    rw [HW.out, if_pos hbig]; exact HB2.out
  · have hsm : acc.length ≤ 65536 := by omega
    obtain ⟨c0, c1, c2, c3, c4, c5⟩ := HC.out _ _ HB0.out
    generalize hWd : box2 w b #[.int .i64 x.kind, strV x.name, .int .i64 x.n, .slice la x.list.length lc, .slice aa x.args.length ac] = W at *
    cases k1 : (x.kind == 1)
    · cases k2 : (x.kind == 2)
      · cases k4 : (x.kind == 4)
        · cases k3 : (x.kind == 3)
          · go_enter Tryd.func35, Tryd.ntmps35
            go_wp2_with fail
            refine h36.out.mono ?_
            rintro e w' ⟨rfl, rfl⟩
            go_wp2_with fail
            go_end0
            refine ⟨rfl, ?_⟩
            rw [HW.out, if_neg hbig, if_neg (by simpa using k1), if_neg (by simpa using k2), if_neg (by simpa using k4), if_neg (by simpa using k3)]; exact HB2.out
          · go_enter Tryd.func35, Tryd.ntmps35
            go_wp2_with fail
            refine h36.out.mono ?_
            rintro e w' ⟨rfl, rfl⟩
            have hK : x.kind = 3 := by simpa using k3
            have hwt2 : wtx x = x.name ++ [40] ++ wtxL x.args 0 ++ [41] := by rw [HWT.out, if_neg (by omega), if_neg (by omega), if_neg (by omega), if_pos hK]
            rw [hwt2] at hlen
            simp only [List.length_append, List.length_cons, List.length_nil] at hlen
            have h63 := bs_str x.name HB0.out (by omega)
            go_wp2_with fail
            refine h63.mono ?_
            rintro e w1 ⟨rfl, hb1⟩
            have h65 := bs_byte 40 hb1 (by simp; omega)
            obtain ⟨d0, d1, d2, d3, d4, d5⟩ := HC.out _ _ hb1
            have Hb1 := Lib.hid hb1; clear hb1
            go_wp2_with fail
            refine h65.mono ?_
            rintro e w2 ⟨rfl, hb2⟩
            obtain ⟨e0, e1, e2, e3, e4, e5⟩ := HC.out _ _ hb2
            have hcut : ∀ k ≤ x.args.length, (joinN (argStep x.args) k (acc ++ x.name ++ [40])).length + (wtxL (x.args.drop k) k).length + 101 ≤ 140737488355328 := fun k hk => by
              have := wtxL_cut x.args k hk (acc ++ x.name ++ [40])
              simp only [List.length_append, List.length_cons, List.length_nil] at this
              omega
            have hcall := f62_67 (p3 := w.heap.size + 1) (S := argStep x.args) (n := x.args.length) (by omega) hb2 H1.out (by omega) (fun k hk => by have := hcut k (by omega); omega) (fun k hk wX hX => by
              have hk2 := hcut k (by omega)
              rw [List.drop_eq_getElem_cons hk] at hk2
              simp only [wtxL, List.length_append] at hk2
              have hnl := nodesL_get x.args k hk
              exact f67_any k hk hX H1.out (by omega) H2.out (by omega) HA.out (fun cs wY hc hY => IH.out x.args[k] cs W wY B b _ (by omega) (fineL_get _ _ hk HFA.out) hc HT.out hY hY.lt (by
                by_cases h0 : 0 < k
                · simp only [if_pos h0, List.length_append, List.length_cons, List.length_nil] at hk2 ⊢; omega
                · simp only [if_neg h0, List.length_nil] at hk2 ⊢; omega)))
            have Hb2 := Lib.hid hb2; clear hb2
            go_wp2_with fail
            refine hcall.mono ?_
            rintro e w3 ⟨rfl, hb3⟩
            obtain ⟨f0, f1, f2, f3, f4, f5⟩ := HC.out _ _ hb3
            have h65b := bs_byte 41 hb3 (by have := hcut x.args.length (Nat.le_refl _); omega)
            have Hb3 := Lib.hid hb3; clear hb3
            go_wp2_with fail
            refine h65b.mono ?_
            rintro e w4 ⟨rfl, hb4⟩
            go_wp2_with fail
            go_end0
            refine ⟨rfl, ?_⟩
            rw [HW.out, if_neg hbig, if_neg (by omega), if_neg (by omega), if_neg (by omega), if_pos hK]; exact HS2.out _ _ hb4
        · go_enter Tryd.func35, Tryd.ntmps35
          go_wp2_with fail
          refine h36.out.mono ?_
          rintro e w' ⟨rfl, rfl⟩
          have hK : x.kind = 4 := by simpa using k4
          have hwt2 : wtx x = x.name := by rw [HWT.out, if_neg (by omega), if_neg (by omega), if_pos hK]
          rw [hwt2] at hlen
          have h63 := bs_str x.name HB0.out (by omega)
          go_wp2_with fail
          refine h63.mono ?_
          rintro e w1 ⟨rfl, hb1⟩
          go_wp2_with fail
          go_end0
          refine ⟨rfl, ?_⟩
          rw [HW.out, if_neg hbig, if_neg (by omega), if_neg (by omega), if_pos hK]; exact HS2.out _ _ hb1
      · go_enter Tryd.func35, Tryd.ntmps35
        go_wp2_with fail
        refine h36.out.mono ?_
        rintro e w' ⟨rfl, rfl⟩
        have hK : x.kind = 2 := by simpa using k2
        have hwt2 : wtx x = joinN (intStep x.list) x.list.length [91] ++ [93] := by rw [HWT.out, if_neg (by omega), if_pos hK]
        rw [hwt2] at hlen
        rw [joinInts_app] at hlen
        simp only [List.length_append, List.length_cons, List.length_nil] at hlen
        have h65 := bs_byte 91 HB0.out (by omega)
        go_wp2_with fail
        refine h65.mono ?_
        rintro e w2 ⟨rfl, hb2⟩
        obtain ⟨e0, e1, e2, e3, e4, e5⟩ := HC.out _ _ hb2
        have hcut : ∀ k ≤ x.list.length, (joinN (intStep x.list) k (acc ++ [91])).length + 100 ≤ 140737488355328 := fun k hk => by
          have := joinInts_mono x.list (acc ++ [91]) hk
          rw [joinInts_app _ x.list.length] at this
          simp only [List.length_append, List.length_cons, List.length_nil] at this
          omega
        have hcall := f62_66 (p3 := w.heap.size + 1) (S := intStep x.list) (n := x.list.length) (by omega) hb2 H1.out (by omega) (fun k hk => by have := hcut k (by omega); omega) (fun k hk wX hX =>
          f66_any k hk HFL.out HT.out hX (by
            have := hcut k (by omega)
            by_cases h0 : 0 < k
            · simp only [if_pos h0, List.length_append, List.length_cons, List.length_nil]; omega
            · simp only [if_neg h0]; omega) H1.out (by omega) H2.out (by omega) HL.out)
        have Hb2 := Lib.hid hb2; clear hb2
        go_wp2_with fail
        refine hcall.mono ?_
        rintro e w3 ⟨rfl, hb3⟩
        obtain ⟨f0, f1, f2, f3, f4, f5⟩ := HC.out _ _ hb3
        have h65b := bs_byte 93 hb3 (by have := hcut x.list.length (Nat.le_refl _); omega)
        have Hb3 := Lib.hid hb3; clear hb3
        go_wp2_with fail
        refine h65b.mono ?_
        rintro e w4 ⟨rfl, hb4⟩
        go_wp2_with fail
        go_end0
        refine ⟨rfl, ?_⟩
        rw [HW.out, if_neg hbig, if_neg (by omega), if_pos hK]; exact HS2.out _ _ hb4
    · go_enter Tryd.func35, Tryd.ntmps35
      go_wp2_with fail
      refine h36.out.mono ?_
      rintro e w' ⟨rfl, rfl⟩
      have hK : x.kind = 1 := by simpa using k1
      have hwt2 : wtx x = Lib.itoa x.n := by rw [HWT.out, if_pos hK]
      rw [hwt2] at hlen
      have hnn := hfn
      obtain ⟨hn0, hn1⟩ := hnn
      have HB3 := Lib.hid HB0.out
      have HC1 := Lib.hid (fun w' acc' hb => And.intro (HC.out w' acc' hb).1 (HC.out w' acc' hb).2.2.2.1)
      clear hfn
      go_wp2_with fail
      go_region_held3 (fun w' => w'.cell? ⟨w.heap.size, 0, none⟩ = some (.pointer (some ⟨b, 0, none⟩)) ∧ w'.cell? ⟨w.heap.size + 1, 2, none⟩ = some (.int .i64 x.n))
        (first
          | exact HC1.out _ _ hb1
          | exact HC1.out _ _ hb2
          | exact HC1.out _ _ (HB3.out.later ((Below.refl _ _).drew))
          | go_keep)
        ((first
          | (go_at_call 64; refine (bs_itoa x.n hn0 hn1 HT.out (HB3.out.later ((Below.refl _ _).drew))).mono ?_; rintro e w1 ⟨rfl, hb1, hbel⟩)
          | (go_at_call 63; refine (bs_str (Lib.itoa x.n) hb1 (by omega)).mono ?_; rintro e w2 ⟨rfl, hb2⟩)))
      go_wp2_with fail
      go_end0
      refine ⟨rfl, ?_⟩
      rw [HW.out, if_neg hbig, if_pos hK]; exact HS2.out _ _ hb2

theorem f35_any : ∀ m, WriteSays m
  | 0 => fun x _ _ _ _ _ _ h => by have := nodes_pos x; omega
  | m + 1 => f35_step m (f35_any m)
end Go.Proofs.YtcaaadhhaanbcaaDoor
