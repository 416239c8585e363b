/- The law LangBlanks. -/
import Derived.Test.YtcaaadhhaanbcaaDoorBl
import Derived.Test.YtcaaadhhaanbcaaDoorLo
namespace Go.Proofs.YtcaaadhhaanbcaaDoor
open Go.RowKit

theorem and3 (g : Int) : bits BinOp.and IntKind.i64 g 3 = 0 ∨ bits BinOp.and IntKind.i64 g 3 = 1 ∨ bits BinOp.and IntKind.i64 g 3 = 2 ∨ bits BinOp.and IntKind.i64 g 3 = 3 := by
  have h : (BitVec.ofInt 64 g &&& BitVec.ofInt 64 3).toNat < 4 := by
    rw [BitVec.toNat_and, show (BitVec.ofInt 64 3).toNat = 2 ^ 2 - 1 by decide, Nat.and_two_pow_sub_one_eq_mod]
    exact Nat.mod_lt _ (by decide)
  have e : bits BinOp.and IntKind.i64 g 3 = IntKind.i64.wrap ((BitVec.ofInt 64 g &&& BitVec.ofInt 64 3).toNat : Int) := rfl
  rw [e]
  generalize (BitVec.ofInt 64 g &&& BitVec.ofInt 64 3).toNat = u at h
  match u, h with
  | 0, _ => exact .inl (by decide)
  | 1, _ => exact .inr (.inl (by decide))
  | 2, _ => exact .inr (.inr (.inl (by decide)))
  | 3, _ => exact .inr (.inr (.inr (by decide)))

theorem strV_ten (X : List UInt8) : Value.string ((⟨X.toArray⟩ : ByteArray) ++ ⟨#[10]⟩) = strV (X ++ [10]) := strV_app X [10]
theorem strV_appR (a b c : List UInt8) : Value.string ((⟨a.toArray⟩ : ByteArray) ++ (⟨b.toArray⟩ ++ ⟨c.toArray⟩)) = strV (a ++ (b ++ c)) := by
  rw [← strV_app]
  congr 2
abbrev gaps4 : Value := .agg #[.string ⟨#[32]⟩, .string ⟨#[9]⟩, .string ⟨#[32, 10, 32]⟩, .string ⟨#[32, 32]⟩]
theorem idx0 (w : World) : (Instr.index 41 gaps4 (.int .i64 0)).run Tryd.prog w = .ok (.string ⟨#[32]⟩) w := by kernel_rfl
theorem idx1 (w : World) : (Instr.index 41 gaps4 (.int .i64 1)).run Tryd.prog w = .ok (.string ⟨#[9]⟩) w := by kernel_rfl
theorem idx2 (w : World) : (Instr.index 41 gaps4 (.int .i64 2)).run Tryd.prog w = .ok (.string ⟨#[32, 10, 32]⟩) w := by kernel_rfl
theorem idx3 (w : World) : (Instr.index 41 gaps4 (.int .i64 3)).run Tryd.prog w = .ok (.string ⟨#[32, 32]⟩) w := by kernel_rfl
/-- The gap that the law takes ahead of token i. -/
def gapOf (zs : List Int) (i : Nat) : Int := bits BinOp.and IntKind.i64 (zs[i]?.getD 0) 3

set_option maxRecDepth 100000 in
set_option maxHeartbeats 16000000 in
theorem f8_any (s : ByteArray) (hs : s.size ≤ maxLen) (v : Value) (zs : List Int) (w : World) (hv : RInts (Lt w.heap.size) w v zs) (ht : Tab w.heap.size w) :
    Calls Tryd.prog 8 #[.string s, v] w fun e w' => e = .returned (.bool true) ∧ Below w.heap.size w w' := by
  have hnot : ∀ (x : Bool) (w : World), (Op.unary .not (.bool x)).run Tryd.prog w = .ok (.bool (!x)) w := fun _ _ => rfl
  have H12 := Lib.hid (f12_any w ht)
  clear ht
  have hv' := hv
  obtain ⟨ga, gcap, rfl, hg1, hg2, -⟩ := hv'
  have HV := Lib.hid hv; clear hv
  obtain ⟨⟨ox, c, p⟩, hpt⟩ := PT.total (bts s)
  have H13 := Lib.hid (fun w => f13_any s hs w hpt)
  have H21 := Lib.hid (f21_any s hs)
  unfold maxLen at hs
  cases htk : toks (bts s) with
  | err c' p' =>
    have K21 : Hid (∀ w, Calls Tryd.prog 21 #[.string s] w fun e w' => e = .returned (.tuple #[.slice none 0 0, .int .i64 c', .int .i64 p']) ∧ Below w.heap.size w w') := Lib.hid (fun w => (H21.out w).mono fun e w' h => by unfold TokensPost at h; rw [htk] at h; exact h)
    have hc0 : (c' != 0) = true := by simpa using (toks_bad htk).1
    clear H21 htk hpt
    go_enter Tryd.func8, Tryd.ntmps8
    go_wp2_with fail
    refine H12.out.mono ?_
    rintro e w1 ⟨rfl, hb1⟩
    have HW1 := Lib.hid hb1; clear hb1
    go_wp2_with fail
    refine (K21.out _).mono ?_
    rintro e w2 ⟨rfl, hb2⟩
    have HW2 := Lib.hid (HW1.out.trans (hb2.mono HW1.out.size)); clear hb2
    go_wp2_with fail
    go_ret
    exact ⟨rfl, HW2.out⟩
  | ok ts =>
    have hlen := (toks_len htk).1
    have htx := toks_text htk
    rw [bts_len] at hlen htx
    have K21 : Hid (∀ w, Calls Tryd.prog 21 #[.string s] w fun e w' => ∃ v, e = .returned (.tuple #[v, .int .i64 0, .int .i64 0]) ∧ w'.ownsRow w.heap.size 40 4 v ts.length (toksCells ts) ∧ Below w.heap.size w w') := Lib.hid (fun w => (H21.out w).mono fun e w' h => by unfold TokensPost at h; rw [htk] at h; obtain ⟨⟨v, h1, h2⟩, h3⟩ := h; exact ⟨v, h1, h2, h3⟩)
    clear H21
    by_cases hs3 : (3000 : Int) < (s.size : Int)
    · clear htk hpt
      go_enter Tryd.func8, Tryd.ntmps8
      go_wp2_with fail
      refine H12.out.mono ?_
      rintro e w1 ⟨rfl, hb1⟩
      have HW1 := Lib.hid hb1; clear hb1
      go_wp2_with fail
      refine (K21.out _).mono ?_
      rintro e w2 ⟨v, rfl, ho, hb2⟩
      have HW2 := Lib.hid (HW1.out.trans (hb2.mono HW1.out.size)); clear hb2
      obtain ⟨a, cap, rfl, hc1, hc2⟩ := row_form ho
      clear ho
      go_wp2_with fail
      go_ret
      exact ⟨rfl, HW2.out⟩
    · by_cases hg3 : (3000 : Int) < (zs.length : Int)
      · clear htk hpt
        go_enter Tryd.func8, Tryd.ntmps8
        go_wp2_with fail
        refine H12.out.mono ?_
        rintro e w1 ⟨rfl, hb1⟩
        have HW1 := Lib.hid hb1; clear hb1
        go_wp2_with fail
        refine (K21.out _).mono ?_
        rintro e w2 ⟨v, rfl, ho, hb2⟩
        have HW2 := Lib.hid (HW1.out.trans (hb2.mono HW1.out.size)); clear hb2
        obtain ⟨a, cap, rfl, hc1, hc2⟩ := row_form ho
        clear ho
        go_wp2_with fail
        go_ret
        exact ⟨rfl, HW2.out⟩
      · obtain ⟨ts', ht', hm⟩ := toks_spread (gapOf zs) htk (by rw [bts_len]; omega)
        obtain ⟨p', hpt'⟩ := PT_strips hpt htk ht' hm
        have hsl := spread_len (gapOf zs) ts 0
        have hbsz : (⟨(spread (gapOf zs) 0 ts ++ [10]).toArray⟩ : ByteArray).size ≤ maxLen := by rw [size_mk, List.length_append, List.length_cons, List.length_nil]; unfold maxLen; omega
        have hpt2 : PT (bts ⟨(spread (gapOf zs) 0 ts ++ [10]).toArray⟩) (ox, c, p') := by rw [bts_mk]; exact hpt'
        have H13b := Lib.hid (fun w => f13_any _ hbsz w hpt2)
        have HSL : Hid (∀ k, k ≤ ts.length → (spread (gapOf zs) 0 (ts.take k)).length ≤ 12000) := Lib.hid (fun k hk => by
          have := spread_len (gapOf zs) (ts.take k) 0
          have := textLen_take ts k
          rw [List.length_take] at *
          omega)
        clear htk ht' hm hpt hpt' hpt2 hbsz
        go_enter Tryd.func8, Tryd.ntmps8
        go_wp2_with fail
        refine H12.out.mono ?_
        rintro e w1 ⟨rfl, hb1⟩
        have HW1 := Lib.hid hb1; clear hb1
        go_wp2_with fail
        refine (K21.out _).mono ?_
        rintro e w2 ⟨v, rfl, ho, hb2⟩
        have HW2 := Lib.hid (HW1.out.trans (hb2.mono HW1.out.size)); clear hb2
        obtain ⟨a, cap, rfl, hc1, hc2⟩ := row_form ho
        have HO := Lib.hid ho; clear ho
        go_wp2_with fail
        go_loopw [8, 40] (fun o i wr => ∃ k : Nat, k ≤ ts.length ∧ i = .int .i64 k ∧ Below w2.heap.size w2 wr ∧ o = strV (spread (gapOf zs) 0 (ts.take k))) (fun _ i _ => ts.length - (intOf i).toNat)
        case atStart => exact ⟨0, by omega, rfl, Below.refl _ _, by rw [List.take_zero, spread]⟩
        case round =>
          obtain ⟨k, hk, rfl, hb, rfl⟩ := hrel
          have Hb := Lib.hid hb; clear hb
          by_cases hlt : k < ts.length
          · obtain ⟨g, rfl, c0, c1, c2, c3⟩ := row_here (own_below HO.out Hb.out) k hlt
            have HBn := Lib.hid (fun O => Hb.out.alloc Hb.out.size O)
            have HT2 : Hid (spread (gapOf zs) 0 (ts.take (k + 1)) = spread (gapOf zs) 0 (ts.take k) ++ (gapL (gapOf zs k) ++ ts[k].text)) := Lib.hid (by
              rw [List.take_succ_eq_append_getElem hlt, spread_snoc, List.length_take, Nat.zero_add, Nat.min_eq_left hk])
            have hX2 := HSL.out (k + 1) (by omega)
            rw [HT2.out, List.length_append, List.length_append] at hX2
            generalize spread (gapOf zs) 0 (ts.take k) = X at *
            generalize ts[k] = t at *
            by_cases hz : k < zs.length
            · obtain ⟨b, o, rfl, hbl, k1⟩ := RInts_get (RInts_later HV.out (HW2.out.trans (Hb.out.mono HW2.out.size)) (Nat.le_refl _)) k hz
              have hbw : b < wr.heap.size := World.block_lt_of_cell? wr (⟨b, o + k, none⟩ : Addr) k1
              clear hbl
              have hgk : gapOf zs k = bits BinOp.and IntKind.i64 zs[k] 3 := by unfold gapOf; rw [List.getElem?_eq_getElem hz]; rfl
              rw [hgk] at HT2 hX2
              clear hgk
              generalize zs[k] = gv at *
              rcases and3 gv with hu | hu | hu | hu
              · skip
                have hgap : gapL (bits BinOp.and IntKind.i64 gv 3) = [32] := by rw [hu]; rfl
                have hix := idx0
                have hix2 : ∀ w : World, (Instr.index 41 gaps4 (.int .i64 (bits BinOp.and IntKind.i64 gv 3))).run Tryd.prog w = .ok (.string ⟨#[32]⟩) w := fun w => by rw [hu]; exact idx0 w
                rw [hgap] at HT2
                go_wp2_with fail
                go_quiet (fail)
                go_wp2_with fail
                refine ⟨⟨k + 1, by omega, by go_num, bel_drewN (HBn.out _) _, ?_⟩, by simp [intOf]; omega⟩
                rw [HT2.out, ← strV_appR]
              · skip
                have hgap : gapL (bits BinOp.and IntKind.i64 gv 3) = [9] := by rw [hu]; rfl
                have hix := idx1
                have hix2 : ∀ w : World, (Instr.index 41 gaps4 (.int .i64 (bits BinOp.and IntKind.i64 gv 3))).run Tryd.prog w = .ok (.string ⟨#[9]⟩) w := fun w => by rw [hu]; exact idx1 w
                rw [hgap] at HT2
                go_wp2_with fail
                go_quiet (fail)
                go_wp2_with fail
                refine ⟨⟨k + 1, by omega, by go_num, bel_drewN (HBn.out _) _, ?_⟩, by simp [intOf]; omega⟩
                rw [HT2.out, ← strV_appR]
              · skip
                have hgap : gapL (bits BinOp.and IntKind.i64 gv 3) = [32, 10, 32] := by rw [hu]; rfl
                have hix := idx2
                have hix2 : ∀ w : World, (Instr.index 41 gaps4 (.int .i64 (bits BinOp.and IntKind.i64 gv 3))).run Tryd.prog w = .ok (.string ⟨#[32, 10, 32]⟩) w := fun w => by rw [hu]; exact idx2 w
                rw [hgap] at HT2
                go_wp2_with fail
                go_quiet (fail)
                go_wp2_with fail
                refine ⟨⟨k + 1, by omega, by go_num, bel_drewN (HBn.out _) _, ?_⟩, by simp [intOf]; omega⟩
                rw [HT2.out, ← strV_appR]
              · skip
                have hgap : gapL (bits BinOp.and IntKind.i64 gv 3) = [32, 32] := by rw [hu]; rfl
                have hix := idx3
                have hix2 : ∀ w : World, (Instr.index 41 gaps4 (.int .i64 (bits BinOp.and IntKind.i64 gv 3))).run Tryd.prog w = .ok (.string ⟨#[32, 32]⟩) w := fun w => by rw [hu]; exact idx3 w
                rw [hgap] at HT2
                go_wp2_with fail
                go_quiet (fail)
                go_wp2_with fail
                refine ⟨⟨k + 1, by omega, by go_num, bel_drewN (HBn.out _) _, ?_⟩, by simp [intOf]; omega⟩
                rw [HT2.out, ← strV_appR]
            · have hgk : gapOf zs k = bits BinOp.and IntKind.i64 0 3 := by unfold gapOf; rw [List.getElem?_eq_none (by omega)]; rfl
              rw [hgk] at HT2 hX2
              clear hgk
              have hu : bits BinOp.and IntKind.i64 0 3 = 0 := by decide
              have hgap : gapL (bits BinOp.and IntKind.i64 0 3) = [32] := by rw [hu]; rfl
              have hix := idx0
              have hix2 : ∀ w : World, (Instr.index 41 gaps4 (.int .i64 (bits BinOp.and IntKind.i64 0 3))).run Tryd.prog w = .ok (.string ⟨#[32]⟩) w := fun w => by rw [hu]; exact idx0 w
              rw [hgap] at HT2
              go_wp2_with fail
              go_quiet (fail)
              go_wp2_with fail
              refine ⟨⟨k + 1, by omega, by go_num, bel_drewN (HBn.out _) _, ?_⟩, by simp [intOf]; omega⟩
              rw [HT2.out, ← strV_appR]
          · obtain rfl : k = ts.length := by omega
            rw [List.take_length]
            generalize hX : spread (gapOf zs) 0 ts = X at *
            have hXl : X.length ≤ 12000 := by have := HSL.out ts.length (Nat.le_refl _); rw [List.take_length, hX] at this; exact this
            have HWr := Lib.hid (HW2.out.trans (Hb.out.mono HW2.out.size))
            have H13c : Hid (∀ w, Calls Tryd.prog 13 #[.string (⟨X.toArray⟩ ++ ⟨#[10]⟩)] w (ParsePost (ox, c, p') w)) := Lib.hid (fun w => by
              have := H13b.out w
              rw [strV_ten X]; exact this)
            cases ox with
            | none =>
              go_wp2_with fail
              refine (H13.out _).mono ?_
              rintro e w3 ⟨rfl, hb3⟩
              have HW3 := Lib.hid (HWr.out.trans (hb3.mono HWr.out.size)); clear hb3
              have HC : Hid (∀ w', Below (w3.heap.size + 1) (w3.alloc (Obj.cells #[Value.int IntKind.i64 0, Value.string { data := #[] }, Value.int IntKind.i64 0, Value.slice none 0 0, Value.slice none 0 0] 26)) w' →
                (w'.cell? ⟨w3.heap.size, 0, none⟩ = some (.int .i64 0) ∧ w'.cell? ⟨w3.heap.size, 1, none⟩ = some (Value.string { data := #[] }) ∧ w'.cell? ⟨w3.heap.size, 2, none⟩ = some (.int .i64 0) ∧
                w'.cell? ⟨w3.heap.size, 3, none⟩ = some (.slice none 0 0) ∧ w'.cell? ⟨w3.heap.size, 4, none⟩ = some (.slice none 0 0)) ∧ Below w.heap.size w w') := Lib.hid (fun w' hb => by
                refine ⟨⟨?_, ?_, ?_, ?_, ?_⟩, HW3.out.trans ((((Below.refl _ _).alloc (Nat.le_refl _) _).trans (hb.mono (by omega))).mono HW3.out.size)⟩ <;> (rw [hb.cell (by simp), Lib.cell_of_heap (heap_alloc_new w3 _)]; rfl))
              have HSz : Hid ((w3.alloc (Obj.cells #[Value.int IntKind.i64 0, Value.string { data := #[] }, Value.int IntKind.i64 0, Value.slice none 0 0, Value.slice none 0 0] 26)).heap.size = w3.heap.size + 1) := Lib.hid (by simp)
              go_wp2_with fail
              generalize w3.alloc _ = W at *
              refine (H13c.out _).mono ?_
              rintro e w4 ⟨rfl, hb4⟩
              rw [HSz.out] at hb4
              obtain ⟨⟨c0, c1, c2, c3, c4⟩, hw4⟩ := HC.out _ hb4
              have hlt4 : w3.heap.size < w4.heap.size := World.block_lt_of_cell? w4 _ c0
              have HW4 := Lib.hid hw4; clear hw4 hb4
              have HW6 := Lib.hid (fun O => HW4.out.alloc HW4.out.size O)
              go_wp2_with fail
              refine (same_zero _).mono ?_
              rintro e w5 ⟨rfl, hb5⟩
              have HW7 := Lib.hid ((HW6.out _).trans (hb5.mono (HW6.out _).size)); clear hb5
              go_wp2_with fail
              go_ret
              exact ⟨rfl, HW7.out⟩
            | some x =>
              go_wp2_with fail
              refine (H13.out _).mono ?_
              rintro e w3 ⟨⟨cs, rfl, hx⟩, hb3⟩
              have HW3 := Lib.hid (HWr.out.trans (hb3.mono HWr.out.size)); clear hb3
              have hx1 := XV_here hx
              clear hx
              obtain ⟨la, lc, aa, ac, rfl, -, -, h1, h2, h3, h4⟩ := XV_five hx1
              have HX := Lib.hid hx1; clear hx1
              have HC : Hid (∀ w', Below (w3.heap.size + 1) (w3.alloc (Obj.cells #[Value.int IntKind.i64 x.kind, strV x.name, Value.int IntKind.i64 x.n, Value.slice la x.list.length lc, Value.slice aa x.args.length ac] 26)) w' →
                (w'.cell? ⟨w3.heap.size, 0, none⟩ = some (.int .i64 x.kind) ∧ w'.cell? ⟨w3.heap.size, 1, none⟩ = some (strV x.name) ∧ w'.cell? ⟨w3.heap.size, 2, none⟩ = some (.int .i64 x.n) ∧
                w'.cell? ⟨w3.heap.size, 3, none⟩ = some (.slice la x.list.length lc) ∧ w'.cell? ⟨w3.heap.size, 4, none⟩ = some (.slice aa x.args.length ac)) ∧ Below w3.heap.size w3 w') := Lib.hid (fun w' hb => by
                refine ⟨⟨?_, ?_, ?_, ?_, ?_⟩, ((Below.refl _ _).alloc (Nat.le_refl _) _).trans (hb.mono (by omega))⟩ <;> (rw [hb.cell (by simp), Lib.cell_of_heap (heap_alloc_new w3 _)]; rfl))
              have HSz : Hid ((w3.alloc (Obj.cells #[Value.int IntKind.i64 x.kind, strV x.name, Value.int IntKind.i64 x.n, Value.slice la x.list.length lc, Value.slice aa x.args.length ac] 26)).heap.size = w3.heap.size + 1) := Lib.hid (by simp)
              go_wp2_with fail
              generalize w3.alloc _ = W at *
              refine (H13c.out _).mono ?_
              rintro e w4 ⟨⟨cs, rfl, hx⟩, hb4⟩
              have hx1 := XV_here hx
              clear hx
              obtain ⟨lb, ld, ab, ad, rfl, -, -, g1, g2, g3, g4⟩ := XV_five hx1
              have HY := Lib.hid hx1; clear hx1
              rw [HSz.out] at hb4
              obtain ⟨⟨c0, c1, c2, c3, c4⟩, hw4⟩ := HC.out _ hb4
              have hlt4 : w3.heap.size < w4.heap.size := World.block_lt_of_cell? w4 _ c0
              have HW4 := Lib.hid hw4; clear hw4 hb4
              have HW6 := Lib.hid (fun O => HW4.out.alloc HW4.out.size O)
              have H15 := Lib.hid (fun O => f15_any _ x _ _ (w4.alloc O) (Nat.le_refl _) (XV_later HX.out (HW6.out O) (HW6.out O).size) (XV_later HY.out ((Below.refl _ _).alloc (Nat.le_refl _) O) (by simp)))
              go_wp2_with fail
              refine (H15.out _).mono ?_
              rintro e w5 ⟨rfl, hb5⟩
              have HW7 := Lib.hid (HW3.out.trans (((HW6.out _).trans (hb5.mono (HW6.out _).size)).mono HW3.out.size)); clear hb5
              go_wp2_with fail
              go_ret
              exact ⟨rfl, HW7.out⟩
end Go.Proofs.YtcaaadhhaanbcaaDoor
