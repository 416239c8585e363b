/- The walk of the scan: all tokens of a text, or the panic of the first fault. -/
import Derived.Test.YtcaaadhhaanbcaaDoorWx
namespace Go.Proofs.YtcaaadhhaanbcaaDoor
open Go.RowKit

theorem sign_idx (b : UInt8) : ∃ r : Int, Lib.indexByte [40, 41, 91, 93, 44] ((b.toNat : Int).toNat.toUInt8) = r ∧ (signB (b.toNat : Int) = true → 0 ≤ r) ∧ (signB (b.toNat : Int) = false → r < 0) := by
  rw [Int.toNat_natCast, show b.toNat.toUInt8 = b from UInt8.ofNat_toNat]
  refine ⟨_, rfl, ?_, ?_⟩
  · intro h
    simp only [signB, Bool.or_eq_true, beq_iff_eq] at h
    have hb : b = 40 ∨ b = 41 ∨ b = 91 ∨ b = 93 ∨ b = 44 := by
      rcases h with (((h | h) | h) | h) | h
      · exact .inl (UInt8.toNat_inj.1 (by simpa using (by omega : b.toNat = 40)))
      · exact .inr (.inl (UInt8.toNat_inj.1 (by simpa using (by omega : b.toNat = 41))))
      · exact .inr (.inr (.inl (UInt8.toNat_inj.1 (by simpa using (by omega : b.toNat = 91)))))
      · exact .inr (.inr (.inr (.inl (UInt8.toNat_inj.1 (by simpa using (by omega : b.toNat = 93))))))
      · exact .inr (.inr (.inr (.inr (UInt8.toNat_inj.1 (by simpa using (by omega : b.toNat = 44))))))
    rcases hb with rfl | rfl | rfl | rfl | rfl <;> decide
  · intro h
    have h1 : ∀ c : UInt8, signB (c.toNat : Int) = true → c ≠ b := fun c hc e => by rw [e, h] at hc; cases hc
    have e40 := h1 40 (by decide); have e41 := h1 41 (by decide); have e91 := h1 91 (by decide); have e93 := h1 93 (by decide); have e44 := h1 44 (by decide)
    simp [Lib.indexByte, e40, e41, e91, e93, e44]

def ScanPost (l : List UInt8) (w : World) (e : Ending) (w' : World) : Prop :=
  match toks l with
  | .ok ts => ∃ v, e = .returned v ∧ w'.ownsRow w.heap.size 40 4 v ts.length (toksCells ts) ∧ Below w.heap.size w w'
  | .err c p => e = faultE c p ∧ Below w.heap.size w w'

theorem scan_err {l : List UInt8} {w w' : World} {c : Int} {p : Nat} (h : toks l = .err c p) (hb : Below w.heap.size w w') : ScanPost l w (faultE c p) w' := by
  unfold ScanPost; rw [h]; exact ⟨rfl, hb⟩
theorem scan_ok {l : List UInt8} {w w' : World} {ts : List Tok} {v : Value} (h : toks l = .ok ts) (ho : w'.ownsRow w.heap.size 40 4 v ts.length (toksCells ts)) (hb : Below w.heap.size w w') : ScanPost l w (.returned v) w' := by
  unfold ScanPost; rw [h]; exact ⟨v, rfl, ho, hb⟩

set_option maxRecDepth 100000 in
set_option maxHeartbeats 8000000 in
theorem f26_any (s : ByteArray) (hs : s.size ≤ maxLen) (w : World) :
    Calls Tryd.prog 26 #[.string s] w (ScanPost (bts s) w) := by
  unfold maxLen at hs
  have HS : Hid (s.size ≤ maxLen) := Lib.hid (by unfold maxLen; exact hs)
  by_cases hbig : 65536 < s.size
  · go_enter Tryd.func26, Tryd.ntmps26
    go_wp2_with (go_at_call 28; refine (f28_any _ _ _).mono ?_; rintro e w' ⟨rfl, rfl⟩)
    refine ⟨rfl, ?_⟩
    exact scan_err (c := 8) (p := 0) (by unfold toks; rw [bts_len, if_pos hbig]) (Below.refl _ _)
  · have HT : Hid (toks (bts s) = tk s.size 0 (bts s) []) := Lib.hid (by unfold toks; rw [bts_len, if_neg hbig])
    go_enter Tryd.func26, Tryd.ntmps26
    go_wp2_with fail
    go_loopw [3, 4] (fun v t wr => ∃ (k f : Nat) (acc : List Tok), k ≤ s.size ∧ t = .int .i64 k ∧ wr.ownsRow w.heap.size 40 4 v acc.length (toksCells acc) ∧ Below w.heap.size w wr ∧ acc.length ≤ k ∧ s.size ≤ k + f ∧ tk f k ((bts s).drop k) acc = toks (bts s)) (fun _ t _ => s.size - (intOf t).toNat)
    case atStart => exact ⟨0, s.size, [], by omega, rfl, World.ownsRow_nil _ _ _ _, Below.refl _ _, by simp, by omega, HT.out.symm⟩
    case round =>
      obtain ⟨k, f, acc, hk, rfl, ho, hb, hl, hf, htk⟩ := hrel
      have Htk := Lib.hid htk; clear htk
      have Ho := Lib.hid ho; clear ho
      have Hb := Lib.hid hb; clear hb
      by_cases hlt : k < s.size
      · obtain ⟨f, rfl⟩ : ∃ g, f = g + 1 := ⟨f - 1, by omega⟩
        have HD := Lib.hid (drop_cons s k hlt)
        by_cases h32 : ((s[k].toNat : Int) == 32) = true
        · have HBL : Hid (blankB (s[k].toNat : Int) = true) := Lib.hid (by simp [blankB, h32])
          as_aux_lemma =>
            go_wp2_with fail
            go_roundw
            case rel => exact ⟨k + 1, f, acc, by omega, by go_num, Ho.out, Hb.out, by omega, by omega, by rw [← Htk.out, HD.out, tk_blank HBL.out]⟩
            case measure => simp [intOf]; omega
        · simp only [Bool.not_eq_true] at h32
          by_cases h9 : ((s[k].toNat : Int) == 9) = true
          · have HBL : Hid (blankB (s[k].toNat : Int) = true) := Lib.hid (by simp [blankB, h9])
            as_aux_lemma =>
              go_wp2_with fail
              go_roundw
              case rel => exact ⟨k + 1, f, acc, by omega, by go_num, Ho.out, Hb.out, by omega, by omega, by rw [← Htk.out, HD.out, tk_blank HBL.out]⟩
              case measure => simp [intOf]; omega
          · simp only [Bool.not_eq_true] at h9
            by_cases h10 : ((s[k].toNat : Int) == 10) = true
            · have HBL : Hid (blankB (s[k].toNat : Int) = true) := Lib.hid (by simp [blankB, h10])
              as_aux_lemma =>
                go_wp2_with fail
                go_roundw
                case rel => exact ⟨k + 1, f, acc, by omega, by go_num, Ho.out, Hb.out, by omega, by omega, by rw [← Htk.out, HD.out, tk_blank HBL.out]⟩
                case measure => simp [intOf]; omega
            · simp only [Bool.not_eq_true] at h10
              have HBL : Hid (blankB (s[k].toNat : Int) = false) := Lib.hid (by simp [blankB, h32, h9, h10])
              by_cases hL : letterB (s[k].toNat : Int) = true
              · have hm := runLen_le nameB ((bts s).drop k)
                rw [List.length_drop, bts_len] at hm
                have hgt : 0 < runLen nameB ((bts s).drop k) := by rw [run_yes _ s k hlt (by simp [nameB, hL])]; omega
                have h48 := f48_49 s HS.out k hk
                generalize hn : runLen nameB ((bts s).drop k) = n at *
                have Hn := Lib.hid hn; clear hn
                have H48 := Lib.hid h48; clear h48
                by_cases h16 : 16 < n
                · as_aux_lemma =>
                  go_wp2_with (first | (go_at_call 47; refine (f47_any _ _).mono ?_; rintro e w' ⟨rfl, rfl⟩) | (go_at_call 48; refine (H48.out _).mono ?_; rintro e w' ⟨rfl, rfl⟩) | (go_at_call 28; refine (f28_any _ _ _).mono ?_; rintro e w' ⟨rfl, rfl⟩))
                  refine ⟨rfl, ?_⟩
                  exact scan_err (c := 8) (p := k) (by rw [← Htk.out]; exact tk_long HD.out HBL.out hL Hn.out h16) Hb.out
                · as_aux_lemma =>
                  go_wp2_with (first | (go_at_call 47; refine (f47_any _ _).mono ?_; rintro e w' ⟨rfl, rfl⟩) | (go_at_call 48; refine (H48.out _).mono ?_; rintro e w' ⟨rfl, rfl⟩) | (at_builtin; refine append_cells (w0 := w) w.heap.size rfl _ _ 36 40 _ 4 40 rfl Tryd.underlying36 tokInfo rfl (by decide) (by decide) u3 acc.length (toksCells acc) [.int .i64 1, .string (s.extract k (k + n)), .int .i64 0, .int .i64 k] rfl rfl rfl ?h1 Ho.out Hb.out ?hb ?hl ?_))
                  case h1 => intro u hu; simp at hu; rcases hu with rfl | rfl | rfl | rfl <;> rfl
                  case hb => exact Hb.out.size
                  case hl => omega
                  intro g cap w1 ho1 hb1 hg1 hgb
                  have hcell : w1.cell? ⟨g, acc.length * 4 + 1, none⟩ = some (.string (s.extract k (k + n))) := by
                    rw [ho1.cellAt _ (by omega), List.getElem?_append_right (by rw [toksCells_len]; omega), toksCells_len]
                    simp
                  have Ho1 := Lib.hid ho1; clear ho1
                  have Hb1 := Lib.hid hb1; clear hb1
                  clear hg1
                  go_wp2_with fail
                  refine ⟨⟨k + n, f, acc ++ [⟨1, ((bts s).drop k).take n, 0, k⟩], by omega, by congr 1; omega, own_snoc (by simp [tokCells, strV, extract_bts]) Ho1.out, Hb1.out, by simp; omega, by omega, by rw [← Htk.out, ← List.drop_drop]; exact (tk_name HD.out HBL.out hL Hn.out h16).symm⟩, by simp [intOf]; omega⟩
              · simp only [Bool.not_eq_true] at hL
                by_cases hDg : digitB (s[k].toNat : Int) = true
                · have hm := runLen_le digitB ((bts s).drop k)
                  rw [List.length_drop, bts_len] at hm
                  have hgt : 0 < runLen digitB ((bts s).drop k) := by rw [run_yes _ s k hlt hDg]; omega
                  have h51 := f51_any s HS.out k hlt hDg
                  cases hnt : numTok ((bts s).drop k) k with
                  | err c q =>
                    as_aux_lemma =>
                    have H51 : Hid (∀ w, Calls Tryd.prog 51 #[.string s, .int .i64 k] w fun e w' => e = faultE c q ∧ Below w.heap.size w w') := Lib.hid (fun w => (h51 w).mono fun e w' h => by unfold NumPost at h; rw [hnt] at h; exact h)
                    clear h51
                    have Hnt := Lib.hid hnt; clear hnt
                    clear hgt hm
                    go_wp2_with (first | (go_at_call 47; refine (f47_any _ _).mono ?_; rintro e w' ⟨rfl, rfl⟩) | (go_at_call 50; refine (f50_any _ _).mono ?_; rintro e w' ⟨rfl, rfl⟩) | (go_at_call 51; refine (H51.out _).mono ?_; rintro e w2 ⟨rfl, hb2⟩))
                    refine ⟨rfl, ?_⟩
                    exact scan_err (c := c) (p := q) (by rw [← Htk.out]; exact tk_numErr HD.out HBL.out hL hDg Hnt.out) (below_new Hb.out hb2 Hb.out.size)
                  | ok t =>
                    as_aux_lemma =>
                    have ht := numTok_ok hnt
                    have H51 : Hid (∀ w, Calls Tryd.prog 51 #[.string s, .int .i64 k] w fun e w' => e = .returned (.agg #[.int .i64 t.kind, strV t.text, .int .i64 t.n, .int .i64 t.pos]) ∧ Below w.heap.size w w') := Lib.hid (fun w => (h51 w).mono fun e w' h => by unfold NumPost at h; rw [hnt] at h; exact h)
                    clear h51
                    have Hnt := Lib.hid hnt; clear hnt
                    generalize hn : runLen digitB ((bts s).drop k) = n at *
                    have Hn := Lib.hid hn; clear hn
                    have hl1 : t.text.length ≤ n := by rw [ht, List.length_take]; exact Nat.min_le_left _ _
                    have hl2 : n ≤ t.text.length := by rw [ht, List.length_take, List.length_drop, bts_len]; omega
                    clear ht
                    go_wp2_with (first | (go_at_call 47; refine (f47_any _ _).mono ?_; rintro e w' ⟨rfl, rfl⟩) | (go_at_call 50; refine (f50_any _ _).mono ?_; rintro e w' ⟨rfl, rfl⟩))
                    refine (H51.out _).mono ?_
                    rintro e w2 ⟨rfl, hb2⟩
                    have Ho2 := Lib.hid (own_below Ho.out hb2)
                    have Hb2 := Lib.hid (below_new Hb.out hb2 Hb.out.size)
                    clear hb2
                    go_wp2_with (first | (at_builtin; refine append_cells (w0 := w) w.heap.size rfl _ _ 36 40 _ 4 40 rfl Tryd.underlying36 tokInfo rfl (by decide) (by decide) u3 acc.length (toksCells acc) [.int .i64 t.kind, strV t.text, .int .i64 t.n, .int .i64 t.pos] rfl rfl rfl ?h1 Ho2.out Hb2.out ?hb ?hl ?_))
                    case h1 => intro u hu; simp at hu; rcases hu with rfl | rfl | rfl | rfl <;> rfl
                    case hb => exact Hb2.out.size
                    case hl => omega
                    intro g cap w1 ho1 hb1 hg1 hgb
                    have hcell : w1.cell? ⟨g, acc.length * 4 + 1, none⟩ = some (strV t.text) := by
                      rw [ho1.cellAt _ (by omega), List.getElem?_append_right (by rw [toksCells_len]; omega), toksCells_len]
                      simp
                    have Ho1 := Lib.hid ho1; clear ho1
                    have Hb1 := Lib.hid hb1; clear hb1
                    clear hg1
                    go_wp2_with fail
                    refine ⟨⟨k + n, f, acc ++ [t], by omega, by congr 1; omega, own_snoc rfl Ho1.out, Hb1.out, by simp; omega, by omega, by rw [← Htk.out, ← List.drop_drop]; exact (tk_num HD.out HBL.out hL hDg Hn.out Hnt.out).symm⟩, by simp [intOf]; omega⟩
                · simp only [Bool.not_eq_true] at hDg
                  obtain ⟨r, hr, hr1, hr2⟩ := sign_idx s[k]
                  have H52 : Hid (∀ w, Calls Tryd.prog 52 #[.string ⟨#[40, 41, 91, 93, 44]⟩, .int .u8 s[k].toNat] w fun e w' => e = .returned (.int .i64 r) ∧ w = w') := Lib.hid (fun w => (Tryd.strings_IndexByte _ _ _).mono fun e w' h => ⟨by rw [← hr]; exact h.1, h.2.symm⟩)
                  clear hr
                  by_cases hSg : signB (s[k].toNat : Int) = true
                  · as_aux_lemma =>
                    have hr0 := hr1 hSg
                    clear hr1 hr2
                    go_wp2_with (first | (go_at_call 47; refine (f47_any _ _).mono ?_; rintro e w' ⟨rfl, rfl⟩) | (go_at_call 50; refine (f50_any _ _).mono ?_; rintro e w' ⟨rfl, rfl⟩) | (go_at_call 52; refine (H52.out _).mono ?_; rintro e w' ⟨rfl, rfl⟩) | (at_builtin; refine append_cells (w0 := w) w.heap.size rfl _ _ 36 40 _ 4 40 rfl Tryd.underlying36 tokInfo rfl (by decide) (by decide) u3 acc.length (toksCells acc) [.int .i64 3, .string (s.extract k (k + 1)), .int .i64 0, .int .i64 k] rfl rfl rfl ?h1 Ho.out Hb.out ?hb ?hl ?_))
                    case h1 => intro u hu; simp at hu; rcases hu with rfl | rfl | rfl | rfl <;> rfl
                    case hb => exact Hb.out.size
                    case hl => omega
                    intro g cap w1 ho1 hb1 hg1 hgb
                    have hcell : w1.cell? ⟨g, acc.length * 4 + 1, none⟩ = some (.string (s.extract k (k + 1))) := by
                      rw [ho1.cellAt _ (by omega), List.getElem?_append_right (by rw [toksCells_len]; omega), toksCells_len]
                      simp
                    have Ho1 := Lib.hid ho1; clear ho1
                    have Hb1 := Lib.hid hb1; clear hb1
                    clear hg1
                    go_wp2_with fail
                    refine ⟨⟨k + 1, f, acc ++ [⟨3, ((bts s).drop k).take 1, 0, k⟩], by omega, by congr 1; omega, own_snoc (by simp [tokCells, strV, extract_bts]) Ho1.out, Hb1.out, by simp; omega, by omega, by rw [← Htk.out, ← List.drop_drop]; exact (tk_sign HD.out HBL.out hL hDg hSg).symm⟩, by simp [intOf]; omega⟩
                  · as_aux_lemma =>
                    simp only [Bool.not_eq_true] at hSg
                    have hr0 := hr2 hSg
                    clear hr1 hr2
                    go_wp2_with (first | (go_at_call 47; refine (f47_any _ _).mono ?_; rintro e w' ⟨rfl, rfl⟩) | (go_at_call 50; refine (f50_any _ _).mono ?_; rintro e w' ⟨rfl, rfl⟩) | (go_at_call 52; refine (H52.out _).mono ?_; rintro e w' ⟨rfl, rfl⟩) | (go_at_call 28; refine (f28_any _ _ _).mono ?_; rintro e w' ⟨rfl, rfl⟩))
                    refine ⟨rfl, ?_⟩
                    exact scan_err (c := 14) (p := k) (by rw [← Htk.out]; exact tk_bad HD.out HBL.out hL hDg hSg) Hb.out
      · have Hdr : Hid (toks (bts s) = .ok acc) := Lib.hid (by rw [← Htk.out, List.drop_eq_nil_of_le (by rw [bts_len]; omega), tk_nil])
        go_wp2_with fail
        go_ret
        exact scan_ok Hdr.out Ho.out Hb.out
end Go.Proofs.YtcaaadhhaanbcaaDoor
