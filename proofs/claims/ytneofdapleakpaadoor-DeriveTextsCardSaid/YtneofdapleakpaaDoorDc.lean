/- The walk of derive.Text. -/
import Derived.Test.YtneofdapleakpaaDoorDb
import Derived.Deep.Cut
import Derived.Test.YtneofdapleakpaaDoorDe
namespace Go.Proofs.YtneofdapleakpaaDoor
open Go.RowKit

theorem bs_fresh (w : World) : BS w.heap.size w.heap.size w (w.alloc (.cells #[.pointer none, .slice none 0 0] 42)) [] :=
  ⟨Lib.IsBuilderF.of (Lib.fresh_isBuilder 42 5 w), (Below.refl _ _).alloc (Nat.le_refl _) _, kept_below ((Below.refl _ _).alloc (Nat.le_refl _) _), Nat.le_refl _⟩
/-- The global table of the names stands below B. -/
def Nms (B : Nat) (w : World) : Prop := 0 < B ∧ ∀ k, k < 20 → w.cell? ⟨0, k, none⟩ = some (strV (nameL k))
theorem Nms.later {B : Nat} {w w' : World} (h : Nms B w) (hb : Below B w w') : Nms B w' := ⟨h.1, fun k hk => by rw [hb.cell h.1]; exact h.2 k hk⟩
theorem RI_frm {S : Nat} {w : World} {a : Option Addr} {len cap : Nat} {zs : List Int} (h : RI S w (.slice a len cap) zs) (i : Nat) (hi : i < zs.length) : ∃ b o, a = some ⟨b, o, none⟩ ∧ b < S ∧ w.cell? ⟨b, o + i, none⟩ = some (.int .i64 zs[i]) ∧ rng zs[i] := by
  obtain ⟨a', cap', hv, _, _, h3⟩ := h
  obtain ⟨rfl, rfl, rfl⟩ := Value.slice.inj hv
  exact h3 i hi
theorem RI_cap {S : Nat} {w : World} {a : Option Addr} {len cap : Nat} {zs : List Int} (h : RI S w (.slice a len cap) zs) : len ≤ cap ∧ cap ≤ 9223372036854775807 := by
  obtain ⟨a', cap', hv, h1, h2, _⟩ := h
  obtain ⟨rfl, rfl, rfl⟩ := Value.slice.inj hv
  exact ⟨h1, h2⟩
/-- How long the text can be. -/
def fewSt (l : List St) : Prop := l.length ≤ 40 ∧ ∀ i (h : i < l.length), l[i].frm.length ≤ 100
theorem lineH_len (i : Nat) (hi : i ≤ 40) (s : St) (h : rng s.p ∧ rng s.m ∧ rng s.n ∧ rng s.low ∧ s.gl ≤ 9223372036854775807) : (lineH i s).length ≤ 300 := by
  obtain ⟨h1, h2, h3, h4, h5⟩ := h
  have a0 := Lib.itoa_length_le (i : Int) (by omega) (by omega)
  have a1 := Lib.itoa_length_le s.n h3.1 h3.2
  have a2 := Lib.itoa_length_le (s.gl : Int) (by omega) (by omega)
  have a3 := Lib.itoa_length_le s.p h1.1 h1.2
  have a4 := Lib.itoa_length_le s.m h2.1 h2.2
  have a5 := Lib.itoa_length_le s.low h4.1 h4.2
  have a6 := nameL_len s.rule
  unfold lineH
  simp only [List.length_append, List.length_cons, List.length_nil]; omega

set_option maxRecDepth 100000 in
set_option maxHeartbeats 16000000 in
theorem f4_any (w : World) (v : Value) (l : List St) (hv : RSt w.heap.size w v l) (hf : fewSt l) (ht : Tab w.heap.size w) (hn : Nms w.heap.size w) :
    Calls Tryd.prog 4 #[v] w fun e w' => e = .returned (strV (txt l 0)) ∧ Below w.heap.size w w' := by
  have hv' := hv
  obtain ⟨a, cap, rfl, hc1, hc2, -⟩ := hv'
  have HV := Lib.hid hv; clear hv
  have HN := Lib.hid hn; clear hn
  obtain ⟨hl40, hl100⟩ := hf
  have HL := Lib.hid hl100; clear hl100
  have HB0 := Lib.hid (bs_fresh w)
  have HI : Hid (∀ (n : Int) W acc, -9223372036854775808 ≤ n → n ≤ 9223372036854775807 → BS w.heap.size w.heap.size w W acc → Calls Tryd.prog 7 #[.int .i64 n] W fun e w' => e = .returned (strV (Lib.itoa n)) ∧ BS w.heap.size w.heap.size w w' acc ∧ Below W.heap.size W w') := Lib.hid (fun n W acc h0 h1 h => bs_itoa n h0 h1 ht h)
  have HW : Hid (∀ (x : List UInt8) W acc, acc.length + x.length ≤ 140737488355328 → BS w.heap.size w.heap.size w W acc → Calls Tryd.prog 6 #[.pointer (some ⟨w.heap.size, 0, none⟩), .string ⟨x.toArray⟩] W fun e w' => e = .returned (.tuple #[.int .i64 x.length, .nilIface]) ∧ BS w.heap.size w.heap.size w w' (acc ++ x) ∧ BS w.heap.size w.heap.size W w' (acc ++ x)) := Lib.hid (fun x W acc h1 h => (bs_str x h.refl h1).mono fun e w' he => ⟨he.1, h.trans he.2, he.2⟩)
  clear ht
  go_enter Tryd.func4, Tryd.ntmps4
  go_wp2_with fail
  generalize w.alloc _ = W0 at *
  go_loopw [11] (fun i wr => ∃ k : Nat, k ≤ l.length ∧ i = .int .i64 k ∧ BS w.heap.size w.heap.size w wr (txt (l.take k) 0) ∧ (txt (l.take k) 0).length ≤ 3000 * k) (fun i _ => l.length - (intOf i).toNat)
  case atStart => exact ⟨0, by omega, rfl, HB0.out, by simp [txt]⟩
  case round =>
    obtain ⟨k, hk, rfl, hbs, hlen⟩ := hrel
    by_cases hlt : k < l.length
    · obtain ⟨_, _, hvs, _, _, hst⟩ := HV.out
      obtain ⟨rfl, -, rfl⟩ := Value.slice.inj hvs
      obtain ⟨b, o, rfl, hs0⟩ := hst k hlt
      have hs := hs0.later hbs.below
      have HRI := Lib.hid hs0.frm
      clear hvs hst hs0
      have h100 := HL.out k hlt
      have HT : Hid (txt (l.take (k + 1)) 0 = txt (l.take k) 0 ++ (lineH k l[k] ++ fromS l[k].frm 0 ++ [10])) := Lib.hid (by
        rw [List.take_succ_eq_append_getElem hlt, txt_snoc, List.length_take, Nat.zero_add, Nat.min_eq_left hk])
      generalize l[k] = s at *
      generalize txt (l.take k) 0 = acc at *
      have hbl : b < w.heap.size := hs.lt
      have hwb : w.heap.size < wr.heap.size := by
        have := hbs.below.size
        rcases hbs.bld with h | h <;> exact (Array.getElem?_eq_some_iff.1 h.2.choose_spec.1).1
      have hcapF := RI_cap hs.frm
      have hlh := lineH_len k (by omega) s hs.ranges
      have HLH : Hid ((lineH k s).length ≤ 300) := Lib.hid hlh
      clear hlh
      obtain ⟨⟨rp1, rp2⟩, ⟨rm1, rm2⟩, ⟨rn1, rn2⟩, ⟨rl1, rl2⟩, hgl⟩ := hs.ranges
      have a0 := Lib.itoa_length_le (k : Int) (by omega) (by omega)
      have a1 := Lib.itoa_length_le s.n rn1 rn2
      have a2 := Lib.itoa_length_le (s.gl : Int) (by omega) (by omega)
      have a3 := Lib.itoa_length_le s.p rp1 rp2
      have a4 := Lib.itoa_length_le s.m rm1 rm2
      have a5 := Lib.itoa_length_le s.low rl1 rl2
      have a6 := nameL_len s.rule
      have HBOX : Hid (∀ WB, wr.alloc (.cells s.cells 36) = WB → BS w.heap.size w.heap.size w WB acc ∧ wr.heap.size < WB.heap.size ∧ WB.cell? ⟨wr.heap.size, 0, none⟩ = some (.int .i64 s.rule) ∧ Nms w.heap.size WB ∧ ∀ W, Below WB.heap.size WB W → (W.cell? ⟨wr.heap.size, 1, none⟩ = some (.int .i64 s.p) ∧ W.cell? ⟨wr.heap.size, 2, none⟩ = some (.int .i64 s.m) ∧ W.cell? ⟨wr.heap.size, 4, none⟩ = some (.int .i64 s.n) ∧ W.cell? ⟨wr.heap.size, 5, none⟩ = some (.slice s.ga s.gl s.gc) ∧ W.cell? ⟨wr.heap.size, 6, none⟩ = some (.int .i64 s.low) ∧ W.cell? ⟨wr.heap.size, 7, none⟩ = some (.slice s.fa s.frm.length s.fc)) ∧ ∀ W' acc', BS w.heap.size w.heap.size W W' acc' → (W'.cell? ⟨wr.heap.size, 1, none⟩ = some (.int .i64 s.p) ∧ W'.cell? ⟨wr.heap.size, 2, none⟩ = some (.int .i64 s.m) ∧ W'.cell? ⟨wr.heap.size, 4, none⟩ = some (.int .i64 s.n) ∧ W'.cell? ⟨wr.heap.size, 5, none⟩ = some (.slice s.ga s.gl s.gc) ∧ W'.cell? ⟨wr.heap.size, 6, none⟩ = some (.int .i64 s.low) ∧ W'.cell? ⟨wr.heap.size, 7, none⟩ = some (.slice s.fa s.frm.length s.fc))) := Lib.hid (by
        rintro WB rfl
        have hbn : Below wr.heap.size wr (wr.alloc (.cells s.cells 36)) := (Below.refl _ _).alloc (Nat.le_refl _) _
        refine ⟨hbs.later hbn, by simp, ?_, (HN.out.later hbs.below).later (hbn.mono hbs.bw), fun W hb => ?_⟩
        · rw [Lib.cell_of_heap (heap_alloc_new wr _)]; rfl
        have h1 : W.heap[wr.heap.size]? = some (.cells s.cells 36) := by rw [hb.block _ (by simp)]; exact heap_alloc_new wr _
        refine ⟨⟨?_, ?_, ?_, ?_, ?_, ?_⟩, fun W' acc' hb' => ?_⟩
        all_goals first
          | (rw [Lib.cell_of_heap h1]; rfl)
          | (have h2 := hb'.heap h1 (by omega) (by decide)
             refine ⟨?_, ?_, ?_, ?_, ?_, ?_⟩ <;> (rw [Lib.cell_of_heap h2]; rfl)))
      clear hbs
      go_upto_region 4 with fail
      refine wp_elem hs hlt rfl rfl rfl rfl rfl rfl rfl rfl rfl rfl rfl rfl rfl rfl rfl rfl rfl rfl rfl rfl rfl rfl rfl rfl rfl ?_
      generalize Value.agg s.cells = v15
      generalize hWB : World.alloc wr _ = WB
      obtain ⟨hbs0, hwsz, z0, hNM, HSX⟩ := HBOX.out WB hWB
      have hq0 : Below WB.heap.size WB WB.drew := (Below.refl _ _).drew
      replace hbs0 := hbs0.later hq0
      have HQ := Lib.hid HSX
      clear HSX hWB HBOX hs
      obtain ⟨⟨z1, z2, z4, z5, z6, z7⟩, -⟩ := HQ.out WB (Below.refl _ _)
      have HNM := Lib.hid hNM; clear hNM
      generalize s.fa = fa at *
      generalize s.frm = frm at *
      have HLN : Hid (lineH k s = Lib.itoa k ++ [58, 32, 108, 101, 110, 103, 116, 104, 32] ++ Lib.itoa s.n ++ [44, 32, 100, 105, 109, 101, 110, 115, 105, 111, 110, 32] ++ Lib.itoa s.gl ++ [44, 32, 102, 105, 101, 108, 100, 32] ++ Lib.itoa s.p ++ [94] ++ Lib.itoa s.m ++ [44, 32, 119, 101, 105, 103, 104, 116, 32, 97, 116, 32, 108, 101, 97, 115, 116, 32] ++ Lib.itoa s.low ++ [44, 32, 98, 121, 32] ++ nameL s.rule) := Lib.hid rfl
      generalize lineH k s = line at *
      by_cases hlo : s.rule < 0
      · have hnm : nameL s.rule = [63] := by unfold nameL; rw [if_neg (by omega)]
        rw [hnm] at HLN
        clear hnm a6
        have ik1 : -9223372036854775808 ≤ (k : Int) := by omega
        have ik2 : (k : Int) ≤ 9223372036854775807 := by omega
        have ig1 : -9223372036854775808 ≤ (s.gl : Int) := by omega
        have ig2 : (s.gl : Int) ≤ 9223372036854775807 := by omega
        have sz0 : ¬ 9223372036854775807 < (Lib.itoa (k : Int)).length + 9 := by omega
        have sz1 : ¬ 9223372036854775807 < (Lib.itoa (k : Int)).length + 9 + (Lib.itoa s.n).length := by omega
        have sz2 : ¬ 9223372036854775807 < (Lib.itoa (k : Int)).length + 9 + (Lib.itoa s.n).length + 12 := by omega
        have sz3 : ¬ 9223372036854775807 < (Lib.itoa (k : Int)).length + 9 + (Lib.itoa s.n).length + 12 + (Lib.itoa (s.gl : Int)).length := by omega
        have sz4 : ¬ 9223372036854775807 < (Lib.itoa (k : Int)).length + 9 + (Lib.itoa s.n).length + 12 + (Lib.itoa (s.gl : Int)).length + 8 := by omega
        have sz5 : ¬ 9223372036854775807 < (Lib.itoa (k : Int)).length + 9 + (Lib.itoa s.n).length + 12 + (Lib.itoa (s.gl : Int)).length + 8 + (Lib.itoa s.p).length := by omega
        have sz6 : ¬ 9223372036854775807 < (Lib.itoa (k : Int)).length + 9 + (Lib.itoa s.n).length + 12 + (Lib.itoa (s.gl : Int)).length + 8 + (Lib.itoa s.p).length + 1 := by omega
        have sz7 : ¬ 9223372036854775807 < (Lib.itoa (k : Int)).length + 9 + (Lib.itoa s.n).length + 12 + (Lib.itoa (s.gl : Int)).length + 8 + (Lib.itoa s.p).length + 1 + (Lib.itoa s.m).length := by omega
        have sz8 : ¬ 9223372036854775807 < (Lib.itoa (k : Int)).length + 9 + (Lib.itoa s.n).length + 12 + (Lib.itoa (s.gl : Int)).length + 8 + (Lib.itoa s.p).length + 1 + (Lib.itoa s.m).length + 18 := by omega
        have sz9 : ¬ 9223372036854775807 < (Lib.itoa (k : Int)).length + 9 + (Lib.itoa s.n).length + 12 + (Lib.itoa (s.gl : Int)).length + 8 + (Lib.itoa s.p).length + 1 + (Lib.itoa s.m).length + 18 + (Lib.itoa s.low).length := by omega
        have sz10 : ¬ 9223372036854775807 < (Lib.itoa (k : Int)).length + 9 + (Lib.itoa s.n).length + 12 + (Lib.itoa (s.gl : Int)).length + 8 + (Lib.itoa s.p).length + 1 + (Lib.itoa s.m).length + 18 + (Lib.itoa s.low).length + 5 := by omega
        have szn : ¬ 9223372036854775807 < (Lib.itoa (k : Int)).length + 9 + (Lib.itoa s.n).length + 12 + (Lib.itoa (s.gl : Int)).length + 8 + (Lib.itoa s.p).length + 1 + (Lib.itoa s.m).length + 18 + (Lib.itoa s.low).length + 5 + 1 := by omega
        go_wp2_with fail
        have hwl : acc.length + (Lib.itoa (k : Int) ++ [58, 32, 108, 101, 110, 103, 116, 104, 32] ++ Lib.itoa s.n ++ [44, 32, 100, 105, 109, 101, 110, 115, 105, 111, 110, 32] ++ Lib.itoa (s.gl : Int) ++ [44, 32, 102, 105, 101, 108, 100, 32] ++ Lib.itoa s.p ++ [94] ++ Lib.itoa s.m ++ [44, 32, 119, 101, 105, 103, 104, 116, 32, 97, 116, 32, 108, 101, 97, 115, 116, 32] ++ Lib.itoa s.low ++ [44, 32, 98, 121, 32] ++ [63]).length ≤ 140737488355328 := by
          have := HLN.out
          have h2 := HLH.out
          rw [this] at h2; omega
        have HLEN := Lib.hid hlen
        have hk40 : k < 40 := by omega
        clear a0 a1 a2 a3 a4 a5 hlen hl40
        go_region_held3 (fun w' => w'.cell? ⟨wr.heap.size, 1, none⟩ = some (.int .i64 s.p) ∧ w'.cell? ⟨wr.heap.size, 2, none⟩ = some (.int .i64 s.m) ∧ w'.cell? ⟨wr.heap.size, 4, none⟩ = some (.int .i64 s.n) ∧ w'.cell? ⟨wr.heap.size, 5, none⟩ = some (.slice s.ga s.gl s.gc) ∧ w'.cell? ⟨wr.heap.size, 6, none⟩ = some (.int .i64 s.low) ∧ w'.cell? ⟨wr.heap.size, 7, none⟩ = some (.slice fa frm.length s.fc))
          (first
            | exact (HQ.out _ hq6).2 _ _ hbw
            | exact (HQ.out _ hq7).1
            | exact (HQ.out _ hq6).1
            | exact (HQ.out _ hq5).1
            | exact (HQ.out _ hq4).1
            | exact (HQ.out _ hq3).1
            | exact (HQ.out _ hq2).1
            | exact (HQ.out _ hq1).1
            | exact (HQ.out _ hq0).1
            | go_keep)
          ((first
            | (go_at_call 6; simp only [bapp]; refine (HW.out _ _ _ hwl hbs6).mono ?_; rintro e w8 ⟨rfl, hbs8, hbw⟩)
            | (go_at_call 7; refine (HI.out _ _ _ (by omega) (by omega) hbs6).mono ?_; rintro e w7 ⟨rfl, hbs7, hqq⟩; have hq7 := hq6.trans (hqq.mono hq6.size); clear hqq)
            | (go_at_call 7; refine (HI.out _ _ _ (by omega) (by omega) hbs5).mono ?_; rintro e w6 ⟨rfl, hbs6, hqq⟩; have hq6 := hq5.trans (hqq.mono hq5.size); clear hqq)
            | (go_at_call 7; refine (HI.out _ _ _ (by omega) (by omega) hbs4).mono ?_; rintro e w5 ⟨rfl, hbs5, hqq⟩; have hq5 := hq4.trans (hqq.mono hq4.size); clear hqq)
            | (go_at_call 7; refine (HI.out _ _ _ (by omega) (by omega) hbs3).mono ?_; rintro e w4 ⟨rfl, hbs4, hqq⟩; have hq4 := hq3.trans (hqq.mono hq3.size); clear hqq)
            | (go_at_call 7; refine (HI.out _ _ _ (by omega) (by omega) hbs2).mono ?_; rintro e w3 ⟨rfl, hbs3, hqq⟩; have hq3 := hq2.trans (hqq.mono hq2.size); clear hqq)
            | (go_at_call 7; refine (HI.out _ _ _ (by omega) (by omega) hbs1).mono ?_; rintro e w2 ⟨rfl, hbs2, hqq⟩; have hq2 := hq1.trans (hqq.mono hq1.size); clear hqq)
            | (go_at_call 7; refine (HI.out _ _ _ (by omega) (by omega) hbs0).mono ?_; rintro e w1 ⟨rfl, hbs1, hqq⟩; have hq1 := hq0.trans (hqq.mono hq0.size); clear hqq)
            ))
        rw [← HLN.out] at hbs8
        have hlt8 : wr.heap.size < w8.heap.size := by have := hq6.size; have := hbw.below.size; have := hbs6.below.size; omega
        obtain ⟨y1, y2, y4, y5, y6, y7⟩ := (HQ.out _ hq6).2 _ _ hbw
        have HB8 := Lib.hid hbs8
        clear hbs0 hbs1 hbs2 hbs3 hbs4 hbs5 hbs6 hbs8 hbw hq0 hq1 hq2 hq3 hq4 hq5 hq6 sz0 sz1 sz2 sz3 sz4 sz5 sz6 sz7 sz8 sz9 sz10 szn z1 z2 z4 z5 z6 z7
        go_wp2_with fail
        go_loopw [69] (fun i wr2 => ∃ j : Nat, j ≤ frm.length ∧ i = .int .i64 j ∧ BS w.heap.size w.heap.size w wr2 (acc ++ line ++ fromS (frm.take j) 0)) (fun i _ => frm.length - (intOf i).toNat)
        case atStart => exact ⟨0, by omega, rfl, by simpa [fromS] using HB8.out⟩
        case round =>
          obtain ⟨j, hj, rfl, hbs⟩ := hrel
          have hlf := fromS_len (frm.take j) 0 (fun z hz => by
            obtain ⟨i, hi, rfl⟩ := List.getElem_of_mem (List.mem_of_mem_take hz)
            exact (RI_frm HRI.out i hi).choose_spec.choose_spec.2.2.2)
          have hlen := HLEN.out
          have hlA : (acc ++ line ++ fromS (frm.take j) 0).length ≤ 200000 := by
            have := HLH.out
            rw [List.length_take] at hlf
            simp only [List.length_append]; omega
          by_cases hjl : j < frm.length
          · obtain ⟨b2, o2, rfl, hb2, hc2', hrz1, hrz2⟩ := RI_frm (HRI.out.later hbs.below) j hjl
            have HJ : Hid (fromS (frm.take (j + 1)) 0 = fromS (frm.take j) 0 ++ (if j = 0 then [32, 111, 102, 32] else [44, 32]) ++ Lib.itoa frm[j]) := Lib.hid (by
              rw [List.take_succ_eq_append_getElem hjl, fromS_snoc, List.length_take, Nat.zero_add, Nat.min_eq_left hj])
            have hiz := Lib.itoa_length_le frm[j] hrz1 hrz2
            generalize frm[j] = z at *
            have HCUR : Hid (∀ x, acc ++ (line ++ (fromS (frm.take j) 0 ++ x)) = (acc ++ line ++ fromS (frm.take j) 0) ++ x) := Lib.hid (fun x => by simp only [List.append_assoc])
            generalize acc ++ line ++ fromS (frm.take j) 0 = cur at *
            have HBJ := Lib.hid hbs; clear hbs
            by_cases hj0 : (j : Int) = 0
            · obtain rfl : j = 0 := by omega
              simp only [Nat.add_zero] at hc2'
              clear hj0
              go_wp2_with fail
              refine (HW.out [32, 111, 102, 32] _ _ (by simp only [List.length_cons, List.length_nil]; omega) HBJ.out).mono ?_
              rintro e w9 ⟨rfl, hbs9, -⟩
              have HB9 := Lib.hid hbs9; clear hbs9
              go_wp2_with fail
              refine (HI.out z _ _ hrz1 hrz2 HB9.out).mono ?_
              rintro e w10 ⟨rfl, hbs10, -⟩
              have HB10 := Lib.hid hbs10; clear hbs10
              go_wp2_with fail
              refine (HW.out (Lib.itoa z) _ _ (by simp only [List.length_append, List.length_cons, List.length_nil]; omega) HB10.out).mono ?_
              rintro e w11 ⟨rfl, hbs11, -⟩
              have HB11 := Lib.hid hbs11; clear hbs11
              go_wp2_with fail
              refine ⟨⟨0 + 1, by omega, by go_num, ?_⟩, by simp [intOf]; omega⟩
              rw [HJ.out, if_pos trivial]
              have e2 := HB11.out
              simp only [List.append_assoc] at e2 ⊢
              rw [HCUR.out]; exact e2
            · go_wp2_with fail
              refine (HW.out [44, 32] _ _ (by simp only [List.length_cons, List.length_nil]; omega) HBJ.out).mono ?_
              rintro e w9 ⟨rfl, hbs9, -⟩
              have HB9 := Lib.hid hbs9; clear hbs9
              go_wp2_with fail
              refine (HI.out z _ _ hrz1 hrz2 HB9.out).mono ?_
              rintro e w10 ⟨rfl, hbs10, -⟩
              have HB10 := Lib.hid hbs10; clear hbs10
              go_wp2_with fail
              refine (HW.out (Lib.itoa z) _ _ (by simp only [List.length_append, List.length_cons, List.length_nil]; omega) HB10.out).mono ?_
              rintro e w11 ⟨rfl, hbs11, -⟩
              have HB11 := Lib.hid hbs11; clear hbs11
              go_wp2_with fail
              refine ⟨⟨j + 1, by omega, by go_num, ?_⟩, by simp [intOf]; omega⟩
              rw [HJ.out, if_neg (by omega)]
              have e2 := HB11.out
              simp only [List.append_assoc] at e2 ⊢
              rw [HCUR.out]; exact e2
          · obtain rfl : j = frm.length := by omega
            rw [List.take_length] at *
            have HBJ := Lib.hid hbs; clear hbs
            go_wp2_with fail
            refine (HW.out [10] _ _ (by simp only [List.length_cons, List.length_nil]; omega) HBJ.out).mono ?_
            rintro e w9 ⟨rfl, hbs9, -⟩
            have HB9 := Lib.hid hbs9; clear hbs9
            go_wp2_with fail
            refine ⟨⟨k + 1, by omega, by go_num, ?_, ?_⟩, by simp [intOf]; omega⟩
            · rw [HT.out]; simpa only [List.append_assoc] using HB9.out
            · rw [HT.out]
              have := HLH.out
              simp only [List.length_append, List.length_cons, List.length_nil] at hlA ⊢; omega
      · by_cases hhi : 20 ≤ s.rule
        · have hnm : nameL s.rule = [63] := by unfold nameL; rw [if_neg (by omega)]
          rw [hnm] at HLN
          clear hnm a6
          have ik1 : -9223372036854775808 ≤ (k : Int) := by omega
          have ik2 : (k : Int) ≤ 9223372036854775807 := by omega
          have ig1 : -9223372036854775808 ≤ (s.gl : Int) := by omega
          have ig2 : (s.gl : Int) ≤ 9223372036854775807 := by omega
          have sz0 : ¬ 9223372036854775807 < (Lib.itoa (k : Int)).length + 9 := by omega
          have sz1 : ¬ 9223372036854775807 < (Lib.itoa (k : Int)).length + 9 + (Lib.itoa s.n).length := by omega
          have sz2 : ¬ 9223372036854775807 < (Lib.itoa (k : Int)).length + 9 + (Lib.itoa s.n).length + 12 := by omega
          have sz3 : ¬ 9223372036854775807 < (Lib.itoa (k : Int)).length + 9 + (Lib.itoa s.n).length + 12 + (Lib.itoa (s.gl : Int)).length := by omega
          have sz4 : ¬ 9223372036854775807 < (Lib.itoa (k : Int)).length + 9 + (Lib.itoa s.n).length + 12 + (Lib.itoa (s.gl : Int)).length + 8 := by omega
          have sz5 : ¬ 9223372036854775807 < (Lib.itoa (k : Int)).length + 9 + (Lib.itoa s.n).length + 12 + (Lib.itoa (s.gl : Int)).length + 8 + (Lib.itoa s.p).length := by omega
          have sz6 : ¬ 9223372036854775807 < (Lib.itoa (k : Int)).length + 9 + (Lib.itoa s.n).length + 12 + (Lib.itoa (s.gl : Int)).length + 8 + (Lib.itoa s.p).length + 1 := by omega
          have sz7 : ¬ 9223372036854775807 < (Lib.itoa (k : Int)).length + 9 + (Lib.itoa s.n).length + 12 + (Lib.itoa (s.gl : Int)).length + 8 + (Lib.itoa s.p).length + 1 + (Lib.itoa s.m).length := by omega
          have sz8 : ¬ 9223372036854775807 < (Lib.itoa (k : Int)).length + 9 + (Lib.itoa s.n).length + 12 + (Lib.itoa (s.gl : Int)).length + 8 + (Lib.itoa s.p).length + 1 + (Lib.itoa s.m).length + 18 := by omega
          have sz9 : ¬ 9223372036854775807 < (Lib.itoa (k : Int)).length + 9 + (Lib.itoa s.n).length + 12 + (Lib.itoa (s.gl : Int)).length + 8 + (Lib.itoa s.p).length + 1 + (Lib.itoa s.m).length + 18 + (Lib.itoa s.low).length := by omega
          have sz10 : ¬ 9223372036854775807 < (Lib.itoa (k : Int)).length + 9 + (Lib.itoa s.n).length + 12 + (Lib.itoa (s.gl : Int)).length + 8 + (Lib.itoa s.p).length + 1 + (Lib.itoa s.m).length + 18 + (Lib.itoa s.low).length + 5 := by omega
          have szn : ¬ 9223372036854775807 < (Lib.itoa (k : Int)).length + 9 + (Lib.itoa s.n).length + 12 + (Lib.itoa (s.gl : Int)).length + 8 + (Lib.itoa s.p).length + 1 + (Lib.itoa s.m).length + 18 + (Lib.itoa s.low).length + 5 + 1 := by omega
          go_wp2_with fail
          have hwl : acc.length + (Lib.itoa (k : Int) ++ [58, 32, 108, 101, 110, 103, 116, 104, 32] ++ Lib.itoa s.n ++ [44, 32, 100, 105, 109, 101, 110, 115, 105, 111, 110, 32] ++ Lib.itoa (s.gl : Int) ++ [44, 32, 102, 105, 101, 108, 100, 32] ++ Lib.itoa s.p ++ [94] ++ Lib.itoa s.m ++ [44, 32, 119, 101, 105, 103, 104, 116, 32, 97, 116, 32, 108, 101, 97, 115, 116, 32] ++ Lib.itoa s.low ++ [44, 32, 98, 121, 32] ++ [63]).length ≤ 140737488355328 := by
            have := HLN.out
            have h2 := HLH.out
            rw [this] at h2; omega
          have HLEN := Lib.hid hlen
          have hk40 : k < 40 := by omega
          clear a0 a1 a2 a3 a4 a5 hlen hl40
          go_region_held3 (fun w' => w'.cell? ⟨wr.heap.size, 1, none⟩ = some (.int .i64 s.p) ∧ w'.cell? ⟨wr.heap.size, 2, none⟩ = some (.int .i64 s.m) ∧ w'.cell? ⟨wr.heap.size, 4, none⟩ = some (.int .i64 s.n) ∧ w'.cell? ⟨wr.heap.size, 5, none⟩ = some (.slice s.ga s.gl s.gc) ∧ w'.cell? ⟨wr.heap.size, 6, none⟩ = some (.int .i64 s.low) ∧ w'.cell? ⟨wr.heap.size, 7, none⟩ = some (.slice fa frm.length s.fc))
            (first
              | exact (HQ.out _ hq6).2 _ _ hbw
              | exact (HQ.out _ hq7).1
              | exact (HQ.out _ hq6).1
              | exact (HQ.out _ hq5).1
              | exact (HQ.out _ hq4).1
              | exact (HQ.out _ hq3).1
              | exact (HQ.out _ hq2).1
              | exact (HQ.out _ hq1).1
              | exact (HQ.out _ hq0).1
              | go_keep)
            ((first
              | (go_at_call 6; simp only [bapp]; refine (HW.out _ _ _ hwl hbs6).mono ?_; rintro e w8 ⟨rfl, hbs8, hbw⟩)
              | (go_at_call 7; refine (HI.out _ _ _ (by omega) (by omega) hbs6).mono ?_; rintro e w7 ⟨rfl, hbs7, hqq⟩; have hq7 := hq6.trans (hqq.mono hq6.size); clear hqq)
              | (go_at_call 7; refine (HI.out _ _ _ (by omega) (by omega) hbs5).mono ?_; rintro e w6 ⟨rfl, hbs6, hqq⟩; have hq6 := hq5.trans (hqq.mono hq5.size); clear hqq)
              | (go_at_call 7; refine (HI.out _ _ _ (by omega) (by omega) hbs4).mono ?_; rintro e w5 ⟨rfl, hbs5, hqq⟩; have hq5 := hq4.trans (hqq.mono hq4.size); clear hqq)
              | (go_at_call 7; refine (HI.out _ _ _ (by omega) (by omega) hbs3).mono ?_; rintro e w4 ⟨rfl, hbs4, hqq⟩; have hq4 := hq3.trans (hqq.mono hq3.size); clear hqq)
              | (go_at_call 7; refine (HI.out _ _ _ (by omega) (by omega) hbs2).mono ?_; rintro e w3 ⟨rfl, hbs3, hqq⟩; have hq3 := hq2.trans (hqq.mono hq2.size); clear hqq)
              | (go_at_call 7; refine (HI.out _ _ _ (by omega) (by omega) hbs1).mono ?_; rintro e w2 ⟨rfl, hbs2, hqq⟩; have hq2 := hq1.trans (hqq.mono hq1.size); clear hqq)
              | (go_at_call 7; refine (HI.out _ _ _ (by omega) (by omega) hbs0).mono ?_; rintro e w1 ⟨rfl, hbs1, hqq⟩; have hq1 := hq0.trans (hqq.mono hq0.size); clear hqq)
              ))
          rw [← HLN.out] at hbs8
          have hlt8 : wr.heap.size < w8.heap.size := by have := hq6.size; have := hbw.below.size; have := hbs6.below.size; omega
          obtain ⟨y1, y2, y4, y5, y6, y7⟩ := (HQ.out _ hq6).2 _ _ hbw
          have HB8 := Lib.hid hbs8
          clear hbs0 hbs1 hbs2 hbs3 hbs4 hbs5 hbs6 hbs8 hbw hq0 hq1 hq2 hq3 hq4 hq5 hq6 sz0 sz1 sz2 sz3 sz4 sz5 sz6 sz7 sz8 sz9 sz10 szn z1 z2 z4 z5 z6 z7
          go_wp2_with fail
          go_loopw [69] (fun i wr2 => ∃ j : Nat, j ≤ frm.length ∧ i = .int .i64 j ∧ BS w.heap.size w.heap.size w wr2 (acc ++ line ++ fromS (frm.take j) 0)) (fun i _ => frm.length - (intOf i).toNat)
          case atStart => exact ⟨0, by omega, rfl, by simpa [fromS] using HB8.out⟩
          case round =>
            obtain ⟨j, hj, rfl, hbs⟩ := hrel
            have hlf := fromS_len (frm.take j) 0 (fun z hz => by
              obtain ⟨i, hi, rfl⟩ := List.getElem_of_mem (List.mem_of_mem_take hz)
              exact (RI_frm HRI.out i hi).choose_spec.choose_spec.2.2.2)
            have hlen := HLEN.out
            have hlA : (acc ++ line ++ fromS (frm.take j) 0).length ≤ 200000 := by
              have := HLH.out
              rw [List.length_take] at hlf
              simp only [List.length_append]; omega
            by_cases hjl : j < frm.length
            · obtain ⟨b2, o2, rfl, hb2, hc2', hrz1, hrz2⟩ := RI_frm (HRI.out.later hbs.below) j hjl
              have HJ : Hid (fromS (frm.take (j + 1)) 0 = fromS (frm.take j) 0 ++ (if j = 0 then [32, 111, 102, 32] else [44, 32]) ++ Lib.itoa frm[j]) := Lib.hid (by
                rw [List.take_succ_eq_append_getElem hjl, fromS_snoc, List.length_take, Nat.zero_add, Nat.min_eq_left hj])
              have hiz := Lib.itoa_length_le frm[j] hrz1 hrz2
              generalize frm[j] = z at *
              have HCUR : Hid (∀ x, acc ++ (line ++ (fromS (frm.take j) 0 ++ x)) = (acc ++ line ++ fromS (frm.take j) 0) ++ x) := Lib.hid (fun x => by simp only [List.append_assoc])
              generalize acc ++ line ++ fromS (frm.take j) 0 = cur at *
              have HBJ := Lib.hid hbs; clear hbs
              by_cases hj0 : (j : Int) = 0
              · obtain rfl : j = 0 := by omega
                simp only [Nat.add_zero] at hc2'
                clear hj0
                go_wp2_with fail
                refine (HW.out [32, 111, 102, 32] _ _ (by simp only [List.length_cons, List.length_nil]; omega) HBJ.out).mono ?_
                rintro e w9 ⟨rfl, hbs9, -⟩
                have HB9 := Lib.hid hbs9; clear hbs9
                go_wp2_with fail
                refine (HI.out z _ _ hrz1 hrz2 HB9.out).mono ?_
                rintro e w10 ⟨rfl, hbs10, -⟩
                have HB10 := Lib.hid hbs10; clear hbs10
                go_wp2_with fail
                refine (HW.out (Lib.itoa z) _ _ (by simp only [List.length_append, List.length_cons, List.length_nil]; omega) HB10.out).mono ?_
                rintro e w11 ⟨rfl, hbs11, -⟩
                have HB11 := Lib.hid hbs11; clear hbs11
                go_wp2_with fail
                refine ⟨⟨0 + 1, by omega, by go_num, ?_⟩, by simp [intOf]; omega⟩
                rw [HJ.out, if_pos trivial]
                have e2 := HB11.out
                simp only [List.append_assoc] at e2 ⊢
                rw [HCUR.out]; exact e2
              · go_wp2_with fail
                refine (HW.out [44, 32] _ _ (by simp only [List.length_cons, List.length_nil]; omega) HBJ.out).mono ?_
                rintro e w9 ⟨rfl, hbs9, -⟩
                have HB9 := Lib.hid hbs9; clear hbs9
                go_wp2_with fail
                refine (HI.out z _ _ hrz1 hrz2 HB9.out).mono ?_
                rintro e w10 ⟨rfl, hbs10, -⟩
                have HB10 := Lib.hid hbs10; clear hbs10
                go_wp2_with fail
                refine (HW.out (Lib.itoa z) _ _ (by simp only [List.length_append, List.length_cons, List.length_nil]; omega) HB10.out).mono ?_
                rintro e w11 ⟨rfl, hbs11, -⟩
                have HB11 := Lib.hid hbs11; clear hbs11
                go_wp2_with fail
                refine ⟨⟨j + 1, by omega, by go_num, ?_⟩, by simp [intOf]; omega⟩
                rw [HJ.out, if_neg (by omega)]
                have e2 := HB11.out
                simp only [List.append_assoc] at e2 ⊢
                rw [HCUR.out]; exact e2
            · obtain rfl : j = frm.length := by omega
              rw [List.take_length] at *
              have HBJ := Lib.hid hbs; clear hbs
              go_wp2_with fail
              refine (HW.out [10] _ _ (by simp only [List.length_cons, List.length_nil]; omega) HBJ.out).mono ?_
              rintro e w9 ⟨rfl, hbs9, -⟩
              have HB9 := Lib.hid hbs9; clear hbs9
              go_wp2_with fail
              refine ⟨⟨k + 1, by omega, by go_num, ?_, ?_⟩, by simp [intOf]; omega⟩
              · rw [HT.out]; simpa only [List.append_assoc] using HB9.out
              · rw [HT.out]
                have := HLH.out
                simp only [List.length_append, List.length_cons, List.length_nil] at hlA ⊢; omega
        · obtain ⟨r, hr⟩ : ∃ r : Nat, s.rule = r := ⟨s.rule.toNat, by omega⟩
          have hr20 : r < 20 := by omega
          have hn0 := HNM.out.1
          have hnc := HNM.out.2 r hr20
          rw [hr] at HLN a6 hlo hhi z0
          have h0wr : 0 < wr.heap.size := by omega
          have h0wr2 : ¬ (0 = wr.heap.size) := by omega
          generalize nameL (r : Int) = nm at *
          have ik1 : -9223372036854775808 ≤ (k : Int) := by omega
          have ik2 : (k : Int) ≤ 9223372036854775807 := by omega
          have ig1 : -9223372036854775808 ≤ (s.gl : Int) := by omega
          have ig2 : (s.gl : Int) ≤ 9223372036854775807 := by omega
          have sz0 : ¬ 9223372036854775807 < (Lib.itoa (k : Int)).length + 9 := by omega
          have sz1 : ¬ 9223372036854775807 < (Lib.itoa (k : Int)).length + 9 + (Lib.itoa s.n).length := by omega
          have sz2 : ¬ 9223372036854775807 < (Lib.itoa (k : Int)).length + 9 + (Lib.itoa s.n).length + 12 := by omega
          have sz3 : ¬ 9223372036854775807 < (Lib.itoa (k : Int)).length + 9 + (Lib.itoa s.n).length + 12 + (Lib.itoa (s.gl : Int)).length := by omega
          have sz4 : ¬ 9223372036854775807 < (Lib.itoa (k : Int)).length + 9 + (Lib.itoa s.n).length + 12 + (Lib.itoa (s.gl : Int)).length + 8 := by omega
          have sz5 : ¬ 9223372036854775807 < (Lib.itoa (k : Int)).length + 9 + (Lib.itoa s.n).length + 12 + (Lib.itoa (s.gl : Int)).length + 8 + (Lib.itoa s.p).length := by omega
          have sz6 : ¬ 9223372036854775807 < (Lib.itoa (k : Int)).length + 9 + (Lib.itoa s.n).length + 12 + (Lib.itoa (s.gl : Int)).length + 8 + (Lib.itoa s.p).length + 1 := by omega
          have sz7 : ¬ 9223372036854775807 < (Lib.itoa (k : Int)).length + 9 + (Lib.itoa s.n).length + 12 + (Lib.itoa (s.gl : Int)).length + 8 + (Lib.itoa s.p).length + 1 + (Lib.itoa s.m).length := by omega
          have sz8 : ¬ 9223372036854775807 < (Lib.itoa (k : Int)).length + 9 + (Lib.itoa s.n).length + 12 + (Lib.itoa (s.gl : Int)).length + 8 + (Lib.itoa s.p).length + 1 + (Lib.itoa s.m).length + 18 := by omega
          have sz9 : ¬ 9223372036854775807 < (Lib.itoa (k : Int)).length + 9 + (Lib.itoa s.n).length + 12 + (Lib.itoa (s.gl : Int)).length + 8 + (Lib.itoa s.p).length + 1 + (Lib.itoa s.m).length + 18 + (Lib.itoa s.low).length := by omega
          have sz10 : ¬ 9223372036854775807 < (Lib.itoa (k : Int)).length + 9 + (Lib.itoa s.n).length + 12 + (Lib.itoa (s.gl : Int)).length + 8 + (Lib.itoa s.p).length + 1 + (Lib.itoa s.m).length + 18 + (Lib.itoa s.low).length + 5 := by omega
          have szn : ¬ 9223372036854775807 < (Lib.itoa (k : Int)).length + 9 + (Lib.itoa s.n).length + 12 + (Lib.itoa (s.gl : Int)).length + 8 + (Lib.itoa s.p).length + 1 + (Lib.itoa s.m).length + 18 + (Lib.itoa s.low).length + 5 + nm.length := by omega
          go_wp2_with fail
          have hwl : acc.length + (Lib.itoa (k : Int) ++ [58, 32, 108, 101, 110, 103, 116, 104, 32] ++ Lib.itoa s.n ++ [44, 32, 100, 105, 109, 101, 110, 115, 105, 111, 110, 32] ++ Lib.itoa (s.gl : Int) ++ [44, 32, 102, 105, 101, 108, 100, 32] ++ Lib.itoa s.p ++ [94] ++ Lib.itoa s.m ++ [44, 32, 119, 101, 105, 103, 104, 116, 32, 97, 116, 32, 108, 101, 97, 115, 116, 32] ++ Lib.itoa s.low ++ [44, 32, 98, 121, 32] ++ nm).length ≤ 140737488355328 := by
            have := HLN.out
            have h2 := HLH.out
            rw [this] at h2; omega
          have HLEN := Lib.hid hlen
          have hk40 : k < 40 := by omega
          clear a0 a1 a2 a3 a4 a5 hlen hl40 a6
          go_region_held3 (fun w' => w'.cell? ⟨wr.heap.size, 1, none⟩ = some (.int .i64 s.p) ∧ w'.cell? ⟨wr.heap.size, 2, none⟩ = some (.int .i64 s.m) ∧ w'.cell? ⟨wr.heap.size, 4, none⟩ = some (.int .i64 s.n) ∧ w'.cell? ⟨wr.heap.size, 5, none⟩ = some (.slice s.ga s.gl s.gc) ∧ w'.cell? ⟨wr.heap.size, 6, none⟩ = some (.int .i64 s.low) ∧ w'.cell? ⟨wr.heap.size, 7, none⟩ = some (.slice fa frm.length s.fc))
            (first
              | exact (HQ.out _ hq6).2 _ _ hbw
              | exact (HQ.out _ hq7).1
              | exact (HQ.out _ hq6).1
              | exact (HQ.out _ hq5).1
              | exact (HQ.out _ hq4).1
              | exact (HQ.out _ hq3).1
              | exact (HQ.out _ hq2).1
              | exact (HQ.out _ hq1).1
              | exact (HQ.out _ hq0).1
              | go_keep)
            ((first
              | (go_at_call 6; simp only [bapp]; refine (HW.out _ _ _ hwl hbs6).mono ?_; rintro e w8 ⟨rfl, hbs8, hbw⟩)
              | (go_at_call 7; refine (HI.out _ _ _ (by omega) (by omega) hbs6).mono ?_; rintro e w7 ⟨rfl, hbs7, hqq⟩; have hq7 := hq6.trans (hqq.mono hq6.size); clear hqq)
              | (go_at_call 7; refine (HI.out _ _ _ (by omega) (by omega) hbs5).mono ?_; rintro e w6 ⟨rfl, hbs6, hqq⟩; have hq6 := hq5.trans (hqq.mono hq5.size); clear hqq)
              | (go_at_call 7; refine (HI.out _ _ _ (by omega) (by omega) hbs4).mono ?_; rintro e w5 ⟨rfl, hbs5, hqq⟩; have hq5 := hq4.trans (hqq.mono hq4.size); clear hqq)
              | (go_at_call 7; refine (HI.out _ _ _ (by omega) (by omega) hbs3).mono ?_; rintro e w4 ⟨rfl, hbs4, hqq⟩; have hq4 := hq3.trans (hqq.mono hq3.size); clear hqq)
              | (go_at_call 7; refine (HI.out _ _ _ (by omega) (by omega) hbs2).mono ?_; rintro e w3 ⟨rfl, hbs3, hqq⟩; have hq3 := hq2.trans (hqq.mono hq2.size); clear hqq)
              | (go_at_call 7; refine (HI.out _ _ _ (by omega) (by omega) hbs1).mono ?_; rintro e w2 ⟨rfl, hbs2, hqq⟩; have hq2 := hq1.trans (hqq.mono hq1.size); clear hqq)
              | (go_at_call 7; refine (HI.out _ _ _ (by omega) (by omega) hbs0).mono ?_; rintro e w1 ⟨rfl, hbs1, hqq⟩; have hq1 := hq0.trans (hqq.mono hq0.size); clear hqq)
              ))
          rw [← HLN.out] at hbs8
          have hlt8 : wr.heap.size < w8.heap.size := by have := hq6.size; have := hbw.below.size; have := hbs6.below.size; omega
          obtain ⟨y1, y2, y4, y5, y6, y7⟩ := (HQ.out _ hq6).2 _ _ hbw
          have HB8 := Lib.hid hbs8
          clear hbs0 hbs1 hbs2 hbs3 hbs4 hbs5 hbs6 hbs8 hbw hq0 hq1 hq2 hq3 hq4 hq5 hq6 sz0 sz1 sz2 sz3 sz4 sz5 sz6 sz7 sz8 sz9 sz10 szn z1 z2 z4 z5 z6 z7
          go_wp2_with fail
          go_loopw [69] (fun i wr2 => ∃ j : Nat, j ≤ frm.length ∧ i = .int .i64 j ∧ BS w.heap.size w.heap.size w wr2 (acc ++ line ++ fromS (frm.take j) 0)) (fun i _ => frm.length - (intOf i).toNat)
          case atStart => exact ⟨0, by omega, rfl, by simpa [fromS] using HB8.out⟩
          case round =>
            obtain ⟨j, hj, rfl, hbs⟩ := hrel
            have hlf := fromS_len (frm.take j) 0 (fun z hz => by
              obtain ⟨i, hi, rfl⟩ := List.getElem_of_mem (List.mem_of_mem_take hz)
              exact (RI_frm HRI.out i hi).choose_spec.choose_spec.2.2.2)
            have hlen := HLEN.out
            have hlA : (acc ++ line ++ fromS (frm.take j) 0).length ≤ 200000 := by
              have := HLH.out
              rw [List.length_take] at hlf
              simp only [List.length_append]; omega
            by_cases hjl : j < frm.length
            · obtain ⟨b2, o2, rfl, hb2, hc2', hrz1, hrz2⟩ := RI_frm (HRI.out.later hbs.below) j hjl
              have HJ : Hid (fromS (frm.take (j + 1)) 0 = fromS (frm.take j) 0 ++ (if j = 0 then [32, 111, 102, 32] else [44, 32]) ++ Lib.itoa frm[j]) := Lib.hid (by
                rw [List.take_succ_eq_append_getElem hjl, fromS_snoc, List.length_take, Nat.zero_add, Nat.min_eq_left hj])
              have hiz := Lib.itoa_length_le frm[j] hrz1 hrz2
              generalize frm[j] = z at *
              have HCUR : Hid (∀ x, acc ++ (line ++ (fromS (frm.take j) 0 ++ x)) = (acc ++ line ++ fromS (frm.take j) 0) ++ x) := Lib.hid (fun x => by simp only [List.append_assoc])
              generalize acc ++ line ++ fromS (frm.take j) 0 = cur at *
              have HBJ := Lib.hid hbs; clear hbs
              by_cases hj0 : (j : Int) = 0
              · obtain rfl : j = 0 := by omega
                simp only [Nat.add_zero] at hc2'
                clear hj0
                go_wp2_with fail
                refine (HW.out [32, 111, 102, 32] _ _ (by simp only [List.length_cons, List.length_nil]; omega) HBJ.out).mono ?_
                rintro e w9 ⟨rfl, hbs9, -⟩
                have HB9 := Lib.hid hbs9; clear hbs9
                go_wp2_with fail
                refine (HI.out z _ _ hrz1 hrz2 HB9.out).mono ?_
                rintro e w10 ⟨rfl, hbs10, -⟩
                have HB10 := Lib.hid hbs10; clear hbs10
                go_wp2_with fail
                refine (HW.out (Lib.itoa z) _ _ (by simp only [List.length_append, List.length_cons, List.length_nil]; omega) HB10.out).mono ?_
                rintro e w11 ⟨rfl, hbs11, -⟩
                have HB11 := Lib.hid hbs11; clear hbs11
                go_wp2_with fail
                refine ⟨⟨0 + 1, by omega, by go_num, ?_⟩, by simp [intOf]; omega⟩
                rw [HJ.out, if_pos trivial]
                have e2 := HB11.out
                simp only [List.append_assoc] at e2 ⊢
                rw [HCUR.out]; exact e2
              · go_wp2_with fail
                refine (HW.out [44, 32] _ _ (by simp only [List.length_cons, List.length_nil]; omega) HBJ.out).mono ?_
                rintro e w9 ⟨rfl, hbs9, -⟩
                have HB9 := Lib.hid hbs9; clear hbs9
                go_wp2_with fail
                refine (HI.out z _ _ hrz1 hrz2 HB9.out).mono ?_
                rintro e w10 ⟨rfl, hbs10, -⟩
                have HB10 := Lib.hid hbs10; clear hbs10
                go_wp2_with fail
                refine (HW.out (Lib.itoa z) _ _ (by simp only [List.length_append, List.length_cons, List.length_nil]; omega) HB10.out).mono ?_
                rintro e w11 ⟨rfl, hbs11, -⟩
                have HB11 := Lib.hid hbs11; clear hbs11
                go_wp2_with fail
                refine ⟨⟨j + 1, by omega, by go_num, ?_⟩, by simp [intOf]; omega⟩
                rw [HJ.out, if_neg (by omega)]
                have e2 := HB11.out
                simp only [List.append_assoc] at e2 ⊢
                rw [HCUR.out]; exact e2
            · obtain rfl : j = frm.length := by omega
              rw [List.take_length] at *
              have HBJ := Lib.hid hbs; clear hbs
              go_wp2_with fail
              refine (HW.out [10] _ _ (by simp only [List.length_cons, List.length_nil]; omega) HBJ.out).mono ?_
              rintro e w9 ⟨rfl, hbs9, -⟩
              have HB9 := Lib.hid hbs9; clear hbs9
              go_wp2_with fail
              refine ⟨⟨k + 1, by omega, by go_num, ?_, ?_⟩, by simp [intOf]; omega⟩
              · rw [HT.out]; simpa only [List.append_assoc] using HB9.out
              · rw [HT.out]
                have := HLH.out
                simp only [List.length_append, List.length_cons, List.length_nil] at hlA ⊢; omega
    · have hkl : k = l.length := by omega
      subst hkl
      rw [List.take_length] at *
      have HS := Lib.hid (Tryd.Builder_String_any_f w.heap.size w.heap.size (txt l 0) wr hbs.bld hbs.bw)
      have HBW := Lib.hid hbs; clear hbs
      go_wp2_with fail
      refine HS.out.mono ?_
      rintro e w5 ⟨rfl, _, hb5⟩
      have HB := Lib.hid (HBW.out.below.trans hb5)
      clear hb5
      go_wp2_with fail
      go_ret
      exact ⟨rfl, HB.out⟩
end Go.Proofs.YtneofdapleakpaaDoor
