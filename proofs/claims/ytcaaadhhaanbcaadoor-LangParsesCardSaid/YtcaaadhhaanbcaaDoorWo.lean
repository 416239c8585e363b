/- The walks of the writer: numerals, names, lists and calls into a builder, with the early stop. -/
import Derived.Test.YtcaaadhhaanbcaaDoorTx
import Derived.Test.YtcaaadhhaanbcaaDoorBld
import Derived.Deep.RegionHeld3
import Derived.Lib.AppendIntMem
import Derived.Lib.ItoaLen
namespace Go.Proofs.YtcaaadhhaanbcaaDoor
open Go.RowKit

theorem builder_below {B b : Nat} {bs : List Value} {w w' : World} (h : Lib.IsBuilderF 65 5 B b bs w) (hb : Below w.heap.size w w') : Lib.IsBuilderF 65 5 B b bs w' := by
  have one : ∀ p, Lib.BuilderAtF 65 5 B b p bs w → Lib.BuilderAtF 65 5 B b p bs w' := by
    rintro p ⟨hB, v, hbk, hown, hne⟩
    have hlt : b < w.heap.size := (Array.getElem?_eq_some_iff.1 hbk).1
    refine ⟨hB, v, by rw [hb.block b hlt]; exact hbk, ?_, hne⟩
    refine hown.kept (row := none) ⟨hb.os, hb.tape, hb.output, hb.size, fun k hk _ => hb.block k hk⟩ ?_
    cases v.ownBlock with
    | none => exact .inl rfl
    | some g => exact .inr (by simp)
  exact h.elim (fun x => .inl (one _ x)) (fun x => .inr (one _ x))

theorem kept_below {b : Option Nat} {w w' : World} (hb : Below w.heap.size w w') : Lib.OthersKept 5 b w w' := fun k o hk _ _ => by
  rw [hb.block k (Array.getElem?_eq_some_iff.1 hk).1]; exact hk

/-- In w block b is a builder with the bytes acc; of w0 no more than it and its row has turned. -/
structure BS (B b : Nat) (w0 w : World) (acc : List UInt8) : Prop where
  bld : Lib.IsBuilderF 65 5 B b (Lib.byteCells acc) w
  below : Below B w0 w
  kept : Lib.OthersKept 5 (some b) w0 w
  base : B ≤ w0.heap.size

theorem BS.bw {B b : Nat} {w0 w : World} {acc : List UInt8} (h : BS B b w0 w acc) : B ≤ w.heap.size := Nat.le_trans h.base h.below.size
theorem BS.refl {B b : Nat} {w0 w : World} {acc : List UInt8} (h : BS B b w0 w acc) : BS B b w w acc := ⟨h.bld, Below.refl _ _, Lib.OthersKept.refl _ _ _, h.bw⟩
theorem BS.trans {B b : Nat} {w0 w1 w2 : World} {a1 a2 : List UInt8} (h : BS B b w0 w1 a1) (k : BS B b w1 w2 a2) : BS B b w0 w2 a2 := ⟨k.bld, h.below.trans k.below, h.kept.trans k.kept, h.base⟩
theorem BS.later {B b : Nat} {w0 w w' : World} {acc : List UInt8} (h : BS B b w0 w acc) (hb : Below w.heap.size w w') : BS B b w0 w' acc :=
  ⟨builder_below h.bld hb, h.below.trans (hb.mono h.bw), h.kept.trans (kept_below hb), h.base⟩
theorem BS.heap {B b : Nat} {w0 w : World} {acc : List UInt8} (h : BS B b w0 w acc) {k : Nat} {cs : Array Value} {e : TypeId} {fr : Nat × Nat} (hk : w0.heap[k]? = some (.cells cs e fr)) (hne : k ≠ b) (he : e ≠ 5) : w.heap[k]? = some (.cells cs e fr) :=
  h.kept k _ hk (fun e => hne (Option.some.inj e)) (fun c fz e1 => by cases e1; exact he rfl)

theorem bs_len {B b : Nat} {w0 w : World} {acc : List UInt8} (h : BS B b w0 w acc) :
    Calls Tryd.prog 36 #[.pointer (some ⟨b, 0, none⟩)] w fun e w' => e = .returned (.int .i64 acc.length) ∧ w = w' := by
  refine (Tryd.Builder_Len_f B b _ w h.bld).mono ?_
  rintro e w' ⟨rfl, rfl⟩
  exact ⟨by rw [Lib.byteCells_length], rfl⟩
theorem bs_byte {B b : Nat} {w0 w : World} {acc : List UInt8} (c : UInt8) (h : BS B b w0 w acc) (hl : acc.length + 1 ≤ 140737488355328) :
    Calls Tryd.prog 65 #[.pointer (some ⟨b, 0, none⟩), .int .u8 c.toNat] w fun e w' => e = .returned .nilIface ∧ BS B b w0 w' (acc ++ [c]) := by
  refine (writeByte_k B b _ _ w h.bld (by rw [Lib.byteCells_length]; exact hl) h.bw).mono ?_
  rintro e w' ⟨rfl, h1, h2, h3⟩
  exact ⟨rfl, by rw [Lib.byteCells_append]; exact h1, h.below.trans h2, h.kept.trans h3, h.base⟩
theorem bs_str {B b : Nat} {w0 w : World} {acc : List UInt8} (l : List UInt8) (h : BS B b w0 w acc) (hl : acc.length + l.length ≤ 140737488355328) :
    Calls Tryd.prog 63 #[.pointer (some ⟨b, 0, none⟩), .string ⟨l.toArray⟩] w fun e w' => e = .returned (.tuple #[.int .i64 l.length, .nilIface]) ∧ BS B b w0 w' (acc ++ l) := by
  refine (writeString_k B b _ _ w h.bld (by rw [Lib.byteCells_length]; exact hl) h.bw).mono ?_
  rintro e w' ⟨rfl, h1, h2, h3⟩
  exact ⟨rfl, by rw [Lib.byteCells_append]; exact h1, h.below.trans h2, h.kept.trans h3, h.base⟩

/-- The table of powers stands in whatever is below B as w0. -/
abbrev Tab (B : Nat) (w0 : World) : Prop := Lib.TabBelow Tryd.prog B w0 "internal/strconv.uint64pow10" .u64 Lib.pow10Tab

theorem bs_itoa {B b : Nat} {w0 w : World} {acc : List UInt8} (n : Int) (h0 : -9223372036854775808 ≤ n) (h1 : n ≤ 9223372036854775807) (ht : Tab B w0) (h : BS B b w0 w acc) :
    Calls Tryd.prog 64 #[.int .i64 n] w fun e w' => e = .returned (strV (Lib.itoa n)) ∧ BS B b w0 w' acc ∧ Below w.heap.size w w' := by
  refine (Tryd.strconv_Itoa n h0 h1 w (ht w h.below)).mono ?_
  rintro e w' ⟨rfl, k, os, rfl⟩
  have hb : Below w.heap.size w (Sort.grow (w.drewN k) os) := Lib.below_grow _ _ (Nat.le_refl _) _ _
  exact ⟨rfl, h.later hb, hb⟩

set_option maxRecDepth 100000 in
set_option maxHeartbeats 4000000 in
theorem f66_any {B b p2 p3 : Nat} {w0 w : World} {acc : List UInt8} {k nm n lv av : Value} {zs : List Int} (i : Nat) (hi : i < zs.length) (hz : ∀ z ∈ zs, -9223372036854775808 ≤ z ∧ z ≤ 9223372036854775807)
    (ht : Tab B w0) (h : BS B b w0 w acc) (hl : acc.length + 21 ≤ 140737488355328)
    (h2 : w0.heap[p2]? = some (.cells #[.pointer (some ⟨b, 0, none⟩)] 62 (0, 0))) (h2b : p2 ≠ b) (h3 : w0.heap[p3]? = some (.cells #[k, nm, n, lv, av] 26 (0, 0))) (h3b : p3 ≠ b) (hlv : RInts (Lt B) w0 lv zs) :
    Calls Tryd.prog 66 #[.int .i64 i, .pointer (some ⟨p2, 0, none⟩), .pointer (some ⟨p3, 0, none⟩)] w fun e w' => e = .returned (.tuple #[]) ∧ BS B b w0 w' (intStep zs i acc) := by
  have HS : Hid (∀ a cap g o z, lv = .slice a zs.length cap → a = some ⟨g, o, none⟩ → g < B → w0.cell? ⟨g, o + i, none⟩ = some z → ∀ w' acc', BS B b w0 w' acc' → w'.cell? ⟨p2, 0, none⟩ = some (.pointer (some ⟨b, 0, none⟩)) ∧ w'.cell? ⟨p3, 3, none⟩ = some (.slice a zs.length cap) ∧ w'.cell? ⟨g, o + i, none⟩ = some z) := Lib.hid (by
    rintro a cap g o z rfl rfl hg hc w' acc' hb
    exact ⟨by rw [Lib.cell_of_heap (hb.heap h2 h2b (by decide))]; rfl, by rw [Lib.cell_of_heap (hb.heap h3 h3b (by decide))]; rfl, by rw [hb.below.cell hg]; exact hc⟩)
  have hw : RInts (Lt B) w0 lv zs := hlv
  obtain ⟨a, cap, rfl, hc1, hc2, hc⟩ := hw
  obtain ⟨g, o, rfl, hg, hcell⟩ := hc (by intro e; rw [e] at hi; simp at hi)
  have HS := Lib.hid (HS.out _ _ _ _ _ rfl rfl hg (hcell i _ (List.getElem?_eq_getElem hi)))
  obtain ⟨e2, e3, e4⟩ := HS.out w acc h
  have hzi := hz zs[i] (List.getElem_mem hi)
  have hil := Lib.itoa_length_le zs[i] hzi.1 hzi.2
  have hst : intStep zs i acc = acc ++ Lib.itoa zs[i] := by simp [intStep, List.getElem?_eq_getElem hi]
  rw [hst]
  have H := Lib.hid h; clear h
  have HT := Lib.hid ht; clear ht
  clear hcell hc hst hlv hz h2 h3
  generalize zs[i] = z at *
  go_enter Tryd.func66, Tryd.ntmps66
  go_wp2_with fail
  go_region_held3 (fun w' => w'.cell? ⟨p2, 0, none⟩ = some (.pointer (some ⟨b, 0, none⟩)) ∧ w'.cell? ⟨p3, 3, none⟩ = some (.slice (some ⟨g, o, none⟩) zs.length cap) ∧ w'.cell? ⟨g, o + i, none⟩ = some (.int .i64 z))
    (first
      | go_keep
      | exact HS.out _ _ hb1
      | exact HS.out _ _ hb2)
    ((first
      | (go_at_call 64; refine (bs_itoa z hzi.1 hzi.2 HT.out (H.out.later ((Below.refl _ _).drew))).mono ?_; rintro e w1 ⟨rfl, hb1, hbel⟩)
      | (go_at_call 63; refine (bs_str (Lib.itoa z) hb1 (by omega)).mono ?_; rintro e w2 ⟨rfl, hb2⟩)))
  go_end0
  exact ⟨rfl, hb2⟩

set_option maxRecDepth 100000 in
set_option maxHeartbeats 4000000 in
theorem f62_66 {B b p2 p3 : Nat} {w0 w : World} {acc : List UInt8} {n : Nat} {S : Nat → List UInt8 → List UInt8} (hn : n ≤ 9223372036854775807) (h : BS B b w0 w acc)
    (h2 : w0.heap[p2]? = some (.cells #[.pointer (some ⟨b, 0, none⟩)] 62 (0, 0))) (h2b : p2 ≠ b)
    (hlen : ∀ k < n, (joinN S k acc).length + 2 ≤ 140737488355328)
    (hS : ∀ k < n, ∀ w, BS B b w0 w (if 0 < k then joinN S k acc ++ sepB else joinN S k acc) → Calls Tryd.prog 66 #[.int .i64 k, .pointer (some ⟨p2, 0, none⟩), .pointer (some ⟨p3, 0, none⟩)] w fun e w' => e = .returned (.tuple #[]) ∧ BS B b w0 w' (joinN S (k + 1) acc)) :
    Calls Tryd.prog 62 #[.int .i64 n, .func (.func 66) #[] #[.pointer (some ⟨p2, 0, none⟩), .pointer (some ⟨p3, 0, none⟩)], .pointer (some ⟨p2, 0, none⟩)] w fun e w' => e = .returned (.tuple #[]) ∧ BS B b w0 w' (joinN S n acc) := by
  have HC : Hid (∀ w' acc', BS B b w0 w' acc' → w'.cell? ⟨p2, 0, none⟩ = some (.pointer (some ⟨b, 0, none⟩))) := Lib.hid (fun w' acc' hb => by
    rw [Lib.cell_of_heap (hb.heap h2 h2b (by decide))]; rfl)
  have H := Lib.hid h; clear h
  have HS := Lib.hid hS; clear hS
  have HL := Lib.hid hlen; clear hlen
  clear h2
  go_enter Tryd.func62, Tryd.ntmps62
  go_wp2_with fail
  go_loopw [7] (fun t wr => ∃ k : Nat, k ≤ n ∧ t = .int .i64 k ∧ BS B b w0 wr (joinN S k acc)) (fun t _ => n - (intOf t).toNat)
  case atStart => exact ⟨0, by omega, rfl, H.out⟩
  case round =>
    obtain ⟨k, hk, rfl, hb⟩ := hrel
    by_cases hlt : k < n
    · have hle := HL.out k hlt
      have c2 := HC.out _ _ hb
      by_cases h0 : 0 < k
      · have hstr : Hid (Calls Tryd.prog 63 #[.pointer (some ⟨b, 0, none⟩), .string ⟨#[44, 32]⟩] wr fun e w' => e = .returned (.tuple #[.int .i64 2, .nilIface]) ∧ BS B b w0 w' (joinN S k acc ++ sepB)) := Lib.hid (bs_str sepB hb (by simpa using hle))
        have Hb := Lib.hid hb; clear hb
        go_wp2_with fail
        refine hstr.out.mono ?_
        rintro e w1 ⟨rfl, hb1⟩
        have hc1 := HS.out k hlt w1 (by rw [if_pos h0]; exact hb1)
        clear hb1
        go_wp2_with fail
        refine hc1.mono ?_
        rintro e w2 ⟨rfl, hb2⟩
        go_wp2_with fail
        go_roundw
        case rel => exact ⟨k + 1, by omega, by go_num, hb2⟩
        case measure => simp [intOf]; omega
      · have hc1 := HS.out k hlt wr (by rw [if_neg h0]; exact hb)
        have Hb := Lib.hid hb; clear hb
        go_wp2_with fail
        refine hc1.mono ?_
        rintro e w2 ⟨rfl, hb2⟩
        go_wp2_with fail
        go_roundw
        case rel => exact ⟨k + 1, by omega, by go_num, hb2⟩
        case measure => simp [intOf]; omega
    · obtain rfl : k = n := by omega
      have Hb := Lib.hid hb; clear hb
      go_wp2_with fail
      go_end0
      exact ⟨rfl, Hb.out⟩

set_option maxRecDepth 100000 in
set_option maxHeartbeats 4000000 in
theorem f62_67 {B b p2 p3 : Nat} {w0 w : World} {acc : List UInt8} {n : Nat} {S : Nat → List UInt8 → List UInt8} (hn : n ≤ 9223372036854775807) (h : BS B b w0 w acc)
    (h2 : w0.heap[p2]? = some (.cells #[.pointer (some ⟨b, 0, none⟩)] 62 (0, 0))) (h2b : p2 ≠ b)
    (hlen : ∀ k < n, (joinN S k acc).length + 2 ≤ 140737488355328)
    (hS : ∀ k < n, ∀ w, BS B b w0 w (if 0 < k then joinN S k acc ++ sepB else joinN S k acc) → Calls Tryd.prog 67 #[.int .i64 k, .pointer (some ⟨p2, 0, none⟩), .pointer (some ⟨p3, 0, none⟩)] w fun e w' => e = .returned (.tuple #[]) ∧ BS B b w0 w' (joinN S (k + 1) acc)) :
    Calls Tryd.prog 62 #[.int .i64 n, .func (.func 67) #[] #[.pointer (some ⟨p2, 0, none⟩), .pointer (some ⟨p3, 0, none⟩)], .pointer (some ⟨p2, 0, none⟩)] w fun e w' => e = .returned (.tuple #[]) ∧ BS B b w0 w' (joinN S n acc) := by
  have HC : Hid (∀ w' acc', BS B b w0 w' acc' → w'.cell? ⟨p2, 0, none⟩ = some (.pointer (some ⟨b, 0, none⟩))) := Lib.hid (fun w' acc' hb => by
    rw [Lib.cell_of_heap (hb.heap h2 h2b (by decide))]; rfl)
  have H := Lib.hid h; clear h
  have HS := Lib.hid hS; clear hS
  have HL := Lib.hid hlen; clear hlen
  clear h2
  go_enter Tryd.func62, Tryd.ntmps62
  go_wp2_with fail
  go_loopw [7] (fun t wr => ∃ k : Nat, k ≤ n ∧ t = .int .i64 k ∧ BS B b w0 wr (joinN S k acc)) (fun t _ => n - (intOf t).toNat)
  case atStart => exact ⟨0, by omega, rfl, H.out⟩
  case round =>
    obtain ⟨k, hk, rfl, hb⟩ := hrel
    by_cases hlt : k < n
    · have hle := HL.out k hlt
      have c2 := HC.out _ _ hb
      by_cases h0 : 0 < k
      · have hstr : Hid (Calls Tryd.prog 63 #[.pointer (some ⟨b, 0, none⟩), .string ⟨#[44, 32]⟩] wr fun e w' => e = .returned (.tuple #[.int .i64 2, .nilIface]) ∧ BS B b w0 w' (joinN S k acc ++ sepB)) := Lib.hid (bs_str sepB hb (by simpa using hle))
        have Hb := Lib.hid hb; clear hb
        go_wp2_with fail
        refine hstr.out.mono ?_
        rintro e w1 ⟨rfl, hb1⟩
        have hc1 := HS.out k hlt w1 (by rw [if_pos h0]; exact hb1)
        clear hb1
        go_wp2_with fail
        refine hc1.mono ?_
        rintro e w2 ⟨rfl, hb2⟩
        go_wp2_with fail
        go_roundw
        case rel => exact ⟨k + 1, by omega, by go_num, hb2⟩
        case measure => simp [intOf]; omega
      · have hc1 := HS.out k hlt wr (by rw [if_neg h0]; exact hb)
        have Hb := Lib.hid hb; clear hb
        go_wp2_with fail
        refine hc1.mono ?_
        rintro e w2 ⟨rfl, hb2⟩
        go_wp2_with fail
        go_roundw
        case rel => exact ⟨k + 1, by omega, by go_num, hb2⟩
        case measure => simp [intOf]; omega
    · obtain rfl : k = n := by omega
      have Hb := Lib.hid hb; clear hb
      go_wp2_with fail
      go_end0
      exact ⟨rfl, Hb.out⟩

set_option maxRecDepth 100000 in
set_option maxHeartbeats 4000000 in
theorem f67_any {B b p2 p3 : Nat} {w0 w : World} {acc : List UInt8} {k nm n lv av : Value} {ag : List Ex} (i : Nat) (hi : i < ag.length)
    (h : BS B b w0 w acc)
    (h2 : w0.heap[p2]? = some (.cells #[.pointer (some ⟨b, 0, none⟩)] 62 (0, 0))) (h2b : p2 ≠ b) (h3 : w0.heap[p3]? = some (.cells #[k, nm, n, lv, av] 26 (0, 0))) (h3b : p3 ≠ b) (hav : RArgs (Lt B) w0 av ag)
    (H35 : ∀ cs wX, XV (Lt B) w0 ag[i] cs → BS B b w0 wX acc → Calls Tryd.prog 35 #[.pointer (some ⟨b, 0, none⟩), .agg cs] wX fun e w' => e = .returned (.tuple #[]) ∧ BS B b w0 w' (wr ag[i] acc)) :
    Calls Tryd.prog 67 #[.int .i64 i, .pointer (some ⟨p2, 0, none⟩), .pointer (some ⟨p3, 0, none⟩)] w fun e w' => e = .returned (.tuple #[]) ∧ BS B b w0 w' (argStep ag i acc) := by
  have hav' := hav
  obtain ⟨a, cap, rfl, hc1, hc2, _⟩ := hav'
  obtain ⟨g, o, rfl, hg, la, lc, aa, ac, hx, d0, d1, d2, d3, d4⟩ := RArgs_get hav i hi
  have hst : argStep ag i acc = wr ag[i] acc := by simp [argStep, List.getElem?_eq_getElem hi]
  rw [hst]
  have HS : Hid (∀ w' acc', BS B b w0 w' acc' → w'.cell? ⟨p2, 0, none⟩ = some (.pointer (some ⟨b, 0, none⟩)) ∧ w'.cell? ⟨p3, 4, none⟩ = some (.slice (some ⟨g, o, none⟩) ag.length cap) ∧
      w'.cell? ⟨g, o + i * 5, none⟩ = some (.int .i64 ag[i].kind) ∧ w'.cell? ⟨g, o + i * 5 + 1, none⟩ = some (strV ag[i].name) ∧ w'.cell? ⟨g, o + i * 5 + 2, none⟩ = some (.int .i64 ag[i].n) ∧
      w'.cell? ⟨g, o + i * 5 + 3, none⟩ = some (.slice la ag[i].list.length lc) ∧ w'.cell? ⟨g, o + i * 5 + 4, none⟩ = some (.slice aa ag[i].args.length ac)) := Lib.hid (by
    intro w' acc' hb
    refine ⟨by rw [Lib.cell_of_heap (hb.heap h2 h2b (by decide))]; rfl, by rw [Lib.cell_of_heap (hb.heap h3 h3b (by decide))]; rfl, ?_, ?_, ?_, ?_, ?_⟩ <;> (rw [hb.below.cell hg]; assumption))
  obtain ⟨e2, e3, e4, e5, e6, e7, e8⟩ := HS.out w acc h
  have H := Lib.hid (fun wX hX => H35 _ wX hx hX); clear H35 hx
  have HB := Lib.hid h; clear h
  clear hst hav h2 h3 d0 d1 d2 d3 d4
  generalize ag[i] = x at *
  go_enter Tryd.func67, Tryd.ntmps67
  go_wp2_with fail
  go_region_held3 (fun w' => w'.cell? ⟨p2, 0, none⟩ = some (.pointer (some ⟨b, 0, none⟩)) ∧ w'.cell? ⟨p3, 4, none⟩ = some (.slice (some ⟨g, o, none⟩) ag.length cap) ∧
      w'.cell? ⟨g, o + i * 5, none⟩ = some (.int .i64 x.kind) ∧ w'.cell? ⟨g, o + i * 5 + 1, none⟩ = some (strV x.name) ∧ w'.cell? ⟨g, o + i * 5 + 2, none⟩ = some (.int .i64 x.n) ∧
      w'.cell? ⟨g, o + i * 5 + 3, none⟩ = some (.slice la x.list.length lc) ∧ w'.cell? ⟨g, o + i * 5 + 4, none⟩ = some (.slice aa x.args.length ac))
    (first
      | exact HS.out _ _ hb2
      | exact HS.out _ _ (HB.out.later ((Below.refl _ _).drew))
      | go_keep)
    ((first
      | (go_at_call 35; refine (H.out _ (HB.out.later ((Below.refl _ _).drew))).mono ?_; rintro e w2 ⟨rfl, hb2⟩)))
  go_end0
  exact ⟨rfl, hb2⟩

/-- The numbers of an expression are machine words. -/
def wordI (z : Int) : Prop := -9223372036854775808 ≤ z ∧ z ≤ 9223372036854775807
mutual
def fine : Ex → Prop
  | .mk _ _ n zs ag => wordI n ∧ (∀ z ∈ zs, wordI z) ∧ fineL ag
def fineL : List Ex → Prop
  | [] => True
  | x :: xs => fine x ∧ fineL xs
end
theorem fine_iff (x : Ex) : fine x ↔ wordI x.n ∧ (∀ z ∈ x.list, wordI z) ∧ fineL x.args := by cases x; simp [fine, Ex.n, Ex.list, Ex.args]
theorem fineL_get : ∀ (xs : List Ex) (i : Nat) (h : i < xs.length), fineL xs → fine xs[i]
  | x :: xs, 0, _, hf => by simp only [fineL] at hf; exact hf.1
  | x :: xs, i + 1, h, hf => by simp only [fineL] at hf; exact fineL_get xs i (by simpa using h) hf.2

theorem joinInts_len (zs : List Int) (hz : ∀ z ∈ zs, wordI z) (n : Nat) (acc : List UInt8) : (joinN (intStep zs) n acc).length ≤ acc.length + 23 * n := by
  induction n with
  | zero => simp [joinN]
  | succ n ih =>
    simp only [joinN]
    unfold intStep at *
    cases h : zs[n]? with
    | none => simp only []; split <;> (try simp) <;> omega
    | some z =>
      have := Lib.itoa_length_le z (hz z (List.mem_of_getElem? h)).1 (hz z (List.mem_of_getElem? h)).2
      simp only []
      split <;> (try simp) <;> omega

theorem wtxL_cut (ag : List Ex) (i : Nat) (h : i ≤ ag.length) (acc : List UInt8) : (joinN (argStep ag) i acc).length + (wtxL (ag.drop i) i).length ≤ acc.length + (wtxL ag 0).length := by
  induction i with
  | zero => simp [joinN]
  | succ i ih =>
    have := ih (by omega)
    rw [List.drop_eq_getElem_cons (show i < ag.length by omega)] at this
    simp only [wtxL, joinN, argStep, List.getElem?_eq_getElem (show i < ag.length by omega)] at this ⊢
    have hw := wr_le ag[i] (if 0 < i then joinN (argStep ag) i acc ++ sepB else joinN (argStep ag) i acc)
    by_cases h0 : 0 < i
    · simp only [h0, if_true, List.length_append] at this hw ⊢; simp at this hw ⊢; omega
    · simp only [h0, if_false, List.length_append] at this hw ⊢; simp at this hw ⊢; omega

theorem wr_eq (x : Ex) (acc : List UInt8) : wr x acc =
    if 65536 < acc.length then acc else if x.kind = 1 then acc ++ Lib.itoa x.n else if x.kind = 2 then joinN (intStep x.list) x.list.length (acc ++ [91]) ++ [93]
    else if x.kind = 4 then acc ++ x.name else if x.kind = 3 then joinN (argStep x.args) x.args.length (acc ++ x.name ++ [40]) ++ [41] else acc := by
  cases x with
  | mk k nm n zs ag => simp only [wr, Ex.kind, Ex.name, Ex.n, Ex.list, Ex.args, wrL_eq]; rfl
theorem wtx_eq (x : Ex) : wtx x = if x.kind = 1 then Lib.itoa x.n else if x.kind = 2 then joinN (intStep x.list) x.list.length [91] ++ [93] else if x.kind = 4 then x.name else if x.kind = 3 then x.name ++ [40] ++ wtxL x.args 0 ++ [41] else [] := by
  cases x with
  | mk k nm n zs ag => simp only [wtx, Ex.kind, Ex.name, Ex.n, Ex.list, Ex.args]; rfl

end Go.Proofs.YtcaaadhhaanbcaaDoor
