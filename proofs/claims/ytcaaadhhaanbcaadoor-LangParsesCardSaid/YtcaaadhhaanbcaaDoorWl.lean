/- The walk of the reference's scan. -/
import Derived.Test.YtcaaadhhaanbcaaDoorWk
namespace Go.Proofs.YtcaaadhhaanbcaaDoor
open Go.RowKit

theorem tokens_err {l : List UInt8} {w w' : World} {c : Int} {p : Nat} (h : toks l = .err c p) (hb : Below w.heap.size w w') : TokensPost l w (.returned (.tuple #[.slice none 0 0, .int .i64 c, .int .i64 p])) w' := by
  unfold TokensPost; rw [h]; exact ⟨rfl, hb⟩
theorem tokens_ok {l : List UInt8} {w w' : World} {ts : List Tok} {v : Value} (h : toks l = .ok ts) (ho : w'.ownsRow w.heap.size 40 4 v ts.length (toksCells ts)) (hb : Below w.heap.size w w') : TokensPost l w (.returned (.tuple #[v, .int .i64 0, .int .i64 0])) w' := by
  unfold TokensPost; rw [h]; exact ⟨⟨v, rfl, ho⟩, hb⟩
theorem sign_lone {b : Int} (h : signB b = true) : letterB b = false ∧ digitB b = false := by
  simp only [signB, Bool.or_eq_true, beq_iff_eq] at h
  rcases h with (((rfl | rfl) | rfl) | rfl) | rfl <;> exact ⟨by decide, by decide⟩
theorem digit_lone {b : Int} (h : digitB b = true) : letterB b = false := by
  simp only [digitB, Bool.and_eq_true, decide_eq_true_eq] at h
  simp [letterB]; omega
theorem bts_extract (s : ByteArray) (k : Nat) (_hk : k ≤ s.size) : bts (s.extract k s.size) = (bts s).drop k := by
  simp [bts, ByteArray.data_extract, Array.toList_extract]
  rw [List.take_of_length_le]
  rw [List.length_drop, Array.length_toList]; exact Nat.le_refl _
theorem f45_tail (s : ByteArray) (hs : s.size ≤ maxLen) (k : Nat) (hk : k < s.size) (hd : digitB (s[k].toNat : Int) = true) (w : World) :
    Calls Tryd.prog 45 #[.string (s.extract k s.size)] w fun e w' => e = .returned (NumR (numTok ((bts s).drop k) k) (runLen digitB ((bts s).drop k))) ∧ w = w' := by
  have h1 : (s.extract k s.size).size = s.size - k := by rw [ByteArray.size_extract]; omega
  have h := f45_any (s.extract k s.size) (by omega) k (by omega) (by rw [ByteArray.getElem_extract]; simpa using hd) w
  rw [bts_extract s k (by omega)] at h
  exact h

theorem numTok_err {l : List UInt8} {p q : Nat} {c : Int} (h : numTok l p = .err c q) : c ≠ 0 ∧ q = p := by
  unfold numTok at h
  split at h
  · cases h; exact ⟨by decide, rfl⟩
  · split at h
    · cases h; exact ⟨by decide, rfl⟩
    · cases h
theorem numTok_ok2 {l : List UInt8} {p : Nat} {t : Tok} (h : numTok l p = .ok t) : t.kind = 2 ∧ t.pos = p := by
  unfold numTok at h
  split at h
  · cases h
  · split at h
    · cases h
    · cases h; exact ⟨rfl, rfl⟩

set_option maxRecDepth 100000 in
set_option maxHeartbeats 8000000 in
theorem f21_any (s : ByteArray) (hs : s.size ≤ maxLen) (w : World) :
    Calls Tryd.prog 21 #[.string s] w (TokensPost (bts s) w) := by
  unfold maxLen at hs
  have HS : Hid (s.size ≤ maxLen) := Lib.hid (by unfold maxLen; exact hs)
  by_cases hbig : 65536 < s.size
  · go_enter Tryd.func21, Tryd.ntmps21
    go_wp2_with fail
    refine bodyPost_ret (v := .tuple #[.slice none 0 0, .int .i64 (8 : Int), .int .i64 (0 : Nat)]) (by simp [results, Tryd.results21, go_sem]) rfl ?_
    exact tokens_err (c := 8) (p := 0) (by unfold toks; rw [bts_len, if_pos hbig]) (Below.refl _ _)
  · have HT : Hid (toks (bts s) = tk s.size 0 (bts s) []) := Lib.hid (by unfold toks; rw [bts_len, if_neg hbig])
    go_enter Tryd.func21, Tryd.ntmps21
    go_wp2_with fail
    go_loopw [5, 6] (fun v t wr => ∃ (k f : Nat) (acc : List Tok), k ≤ s.size ∧ t = .int .i64 k ∧ wr.ownsRow w.heap.size 40 4 v acc.length (toksCells acc) ∧ Below w.heap.size w wr ∧ acc.length ≤ k ∧ s.size ≤ k + f ∧ tk f k ((bts s).drop k) acc = toks (bts s)) (fun _ t _ => s.size - (intOf t).toNat)
    case atStart => exact ⟨0, s.size, [], by omega, rfl, World.ownsRow_nil _ _ _ _, Below.refl _ _, by simp, by omega, HT.out.symm⟩
    case round =>
      obtain ⟨k, f, acc, hk, rfl, ho, hb, hl, hf, htk⟩ := hrel
      have Htk := Lib.hid htk; clear htk
      have Ho := Lib.hid ho; clear ho
      have Hb := Lib.hid hb; clear hb
      by_cases hlt : k < s.size
      · obtain ⟨f, rfl⟩ : ∃ g, f = g + 1 := ⟨f - 1, by omega⟩
        have HD := Lib.hid (drop_cons s k hlt)
        cases hBL : blankB (s[k].toNat : Int)
        · cases hSg : signB (s[k].toNat : Int)
          · cases hDg : digitB (s[k].toNat : Int)
            · cases hL : letterB (s[k].toNat : Int)
              · as_aux_lemma =>
                go_wp2_with (first | (go_at_call 42; refine (f42_any _ _).mono ?_; rintro e w' ⟨rfl, rfl⟩; simp only [hBL]) | (go_at_call 43; refine (f43_any _ _).mono ?_; rintro e w' ⟨rfl, rfl⟩; simp only [hSg]) | (go_at_call 44; refine (f44_any _ _).mono ?_; rintro e w' ⟨rfl, rfl⟩; simp only [hDg]) | (go_at_call 46; refine (f46_any _ _).mono ?_; rintro e w' ⟨rfl, rfl⟩; simp only [hL]))
                refine bodyPost_ret (v := .tuple #[.slice none 0 0, .int .i64 (14 : Int), .int .i64 (k : Nat)]) (by simp [results, Tryd.results21, go_sem]) rfl ?_
                exact tokens_err (c := 14) (p := k) (by rw [← Htk.out]; exact tk_bad HD.out hBL hL hDg hSg) Hb.out
              · as_aux_lemma =>
                have hm := runLen_le nameB ((bts s).drop k)
                rw [List.length_drop, bts_len] at hm
                have hgt : 0 < runLen nameB ((bts s).drop k) := by rw [run_yes _ s k hlt (by simp [nameB, hL])]; omega
                have hget : ∀ m, (h : k + m < s.size) → m < runLen nameB ((bts s).drop k) → nameB (s[k+m].toNat : Int) = true := by
                  intro m h hm2
                  have := runLen_get nameB ((bts s).drop k) m (by rw [List.length_drop, bts_len]; omega) hm2
                  rw [List.getElem_drop] at this; exact this
                have hstop : (h : k + runLen nameB ((bts s).drop k) < s.size) → nameB (s[k+runLen nameB ((bts s).drop k)].toNat : Int) = false := by
                  intro h
                  have := runLen_stop nameB ((bts s).drop k) (by rw [List.length_drop, bts_len]; omega)
                  rw [List.getElem_drop] at this; exact this
                generalize hn : runLen nameB ((bts s).drop k) = n at *
                have Hn := Lib.hid hn; clear hn
                have Hget := Lib.hid hget; clear hget
                have Hstop := Lib.hid hstop; clear hstop
                go_wp2_with (first | (go_at_call 42; refine (f42_any _ _).mono ?_; rintro e w' ⟨rfl, rfl⟩; simp only [hBL]) | (go_at_call 43; refine (f43_any _ _).mono ?_; rintro e w' ⟨rfl, rfl⟩; simp only [hSg]) | (go_at_call 44; refine (f44_any _ _).mono ?_; rintro e w' ⟨rfl, rfl⟩; simp only [hDg]) | (go_at_call 46; refine (f46_any _ _).mono ?_; rintro e w' ⟨rfl, rfl⟩; simp only [hL]))
                go_loop [10] (fun t => ∃ m : Nat, 0 < m ∧ m ≤ n ∧ t = .int .i64 m) (fun t => n - (intOf t).toNat)
                case atStart => exact ⟨1, by omega, by omega, rfl⟩
                case round =>
                  obtain ⟨m, hm0, hmn, rfl⟩ := hrel
                  by_cases hlt2 : m < n
                  · have hnb := Hget.out m (by omega) hlt2
                    simp only [nameB, Bool.or_eq_true] at hnb
                    have hidx : k + m < s.size := by omega
                    cases hL2 : letterB (s[k+m].toNat : Int)
                    · cases hD2 : digitB (s[k+m].toNat : Int)
                      · have h95 : ((s[k+m].toNat : Int) == 95) = true := by rcases hnb with (h | h) | h <;> simp_all
                        clear hnb
                        go_wp2_with (first | (go_at_call 46; refine (f46_any _ _).mono ?_; rintro e w' ⟨rfl, rfl⟩; simp only [hL2]) | (go_at_call 44; refine (f44_any _ _).mono ?_; rintro e w' ⟨rfl, rfl⟩; simp only [hD2]))
                        go_round
                        case rel => exact ⟨m + 1, by omega, by omega, by go_num⟩
                        case measure => simp [intOf]; omega
                      · clear hnb
                        go_wp2_with (first | (go_at_call 46; refine (f46_any _ _).mono ?_; rintro e w' ⟨rfl, rfl⟩; simp only [hL2]) | (go_at_call 44; refine (f44_any _ _).mono ?_; rintro e w' ⟨rfl, rfl⟩; simp only [hD2]))
                        go_round
                        case rel => exact ⟨m + 1, by omega, by omega, by go_num⟩
                        case measure => simp [intOf]; omega
                    · clear hnb
                      go_wp2_with (first | (go_at_call 46; refine (f46_any _ _).mono ?_; rintro e w' ⟨rfl, rfl⟩; simp only [hL2]) | (go_at_call 44; refine (f44_any _ _).mono ?_; rintro e w' ⟨rfl, rfl⟩; simp only [hD2]))
                      go_round
                      case rel => exact ⟨m + 1, by omega, by omega, by go_num⟩
                      case measure => simp [intOf]; omega
                  · obtain rfl : m = n := by omega
                    by_cases hend : k + m < s.size
                    · have hnb := Hstop.out hend
                      simp only [nameB, Bool.or_eq_false_iff] at hnb
                      obtain ⟨⟨hL2, hD2⟩, h95⟩ := hnb
                      by_cases h16 : 16 < m
                      · go_wp2_with (first | (go_at_call 46; refine (f46_any _ _).mono ?_; rintro e w' ⟨rfl, rfl⟩; simp only [hL2]) | (go_at_call 44; refine (f44_any _ _).mono ?_; rintro e w' ⟨rfl, rfl⟩; simp only [hD2]))
                        refine bodyPost_ret (v := .tuple #[.slice none 0 0, .int .i64 (8 : Int), .int .i64 (k : Nat)]) (by simp [results, Tryd.results21, go_sem]) rfl ?_
                        exact tokens_err (c := 8) (p := k) (by rw [← Htk.out]; exact tk_long HD.out hBL hL Hn.out h16) Hb.out
                      · go_wp2_with (first | (go_at_call 46; refine (f46_any _ _).mono ?_; rintro e w' ⟨rfl, rfl⟩; simp only [hL2]) | (go_at_call 44; refine (f44_any _ _).mono ?_; rintro e w' ⟨rfl, rfl⟩; simp only [hD2]) | (at_builtin; refine append_cells (w0 := w) w.heap.size rfl _ _ 36 40 _ 4 40 rfl Tryd.underlying36 tokInfo rfl (by decide) (by decide) u5 acc.length (toksCells acc) [.int .i64 1, .string (s.extract k (k + m)), .int .i64 0, .int .i64 k] rfl rfl rfl ?h1 Ho.out Hb.out ?hb ?hl ?_))
                        case h1 => first | exact ⟨rfl, rfl, rfl, rfl⟩ | (intro u hu; simp at hu; rcases hu with rfl | rfl | rfl | rfl <;> rfl)
                        case hb => exact Hb.out.size
                        case hl => omega
                        intro g cap w1 ho1 hb1 hg1 hgb
                        have Ho1 := Lib.hid ho1; clear ho1
                        have Hb1 := Lib.hid hb1; clear hb1
                        clear hg1
                        go_wp2_with fail
                        refine ⟨⟨k + m, f, acc ++ [⟨1, ((bts s).drop k).take m, 0, k⟩], by omega, by go_num, own_snoc (by simp [tokCells, strV, extract_bts]) Ho1.out, Hb1.out, by simp; omega, by omega, by rw [← Htk.out, ← List.drop_drop]; exact (tk_name HD.out hBL hL Hn.out h16).symm⟩, by simp [intOf]; omega⟩
                    ·
                      by_cases h16 : 16 < m
                      · go_wp2_with (first | (go_at_call 46; refine (f46_any _ _).mono ?_; rintro e w' ⟨rfl, rfl⟩; simp only [hL2]) | (go_at_call 44; refine (f44_any _ _).mono ?_; rintro e w' ⟨rfl, rfl⟩; simp only [hD2]))
                        refine bodyPost_ret (v := .tuple #[.slice none 0 0, .int .i64 (8 : Int), .int .i64 (k : Nat)]) (by simp [results, Tryd.results21, go_sem]) rfl ?_
                        exact tokens_err (c := 8) (p := k) (by rw [← Htk.out]; exact tk_long HD.out hBL hL Hn.out h16) Hb.out
                      · go_wp2_with (first | (go_at_call 46; refine (f46_any _ _).mono ?_; rintro e w' ⟨rfl, rfl⟩; simp only [hL2]) | (go_at_call 44; refine (f44_any _ _).mono ?_; rintro e w' ⟨rfl, rfl⟩; simp only [hD2]) | (at_builtin; refine append_cells (w0 := w) w.heap.size rfl _ _ 36 40 _ 4 40 rfl Tryd.underlying36 tokInfo rfl (by decide) (by decide) u5 acc.length (toksCells acc) [.int .i64 1, .string (s.extract k (k + m)), .int .i64 0, .int .i64 k] rfl rfl rfl ?h1 Ho.out Hb.out ?hb ?hl ?_))
                        case h1 => first | exact ⟨rfl, rfl, rfl, rfl⟩ | (intro u hu; simp at hu; rcases hu with rfl | rfl | rfl | rfl <;> rfl)
                        case hb => exact Hb.out.size
                        case hl => omega
                        intro g cap w1 ho1 hb1 hg1 hgb
                        have Ho1 := Lib.hid ho1; clear ho1
                        have Hb1 := Lib.hid hb1; clear hb1
                        clear hg1
                        go_wp2_with fail
                        refine ⟨⟨k + m, f, acc ++ [⟨1, ((bts s).drop k).take m, 0, k⟩], by omega, by go_num, own_snoc (by simp [tokCells, strV, extract_bts]) Ho1.out, Hb1.out, by simp; omega, by omega, by rw [← Htk.out, ← List.drop_drop]; exact (tk_name HD.out hBL hL Hn.out h16).symm⟩, by simp [intOf]; omega⟩
            · have hL := digit_lone hDg
              have hm := runLen_le digitB ((bts s).drop k)
              rw [List.length_drop, bts_len] at hm
              have hgt : 0 < runLen digitB ((bts s).drop k) := by rw [run_yes _ s k hlt hDg]; omega
              have h45 := f45_tail s HS.out k hlt hDg
              cases hnt : numTok ((bts s).drop k) k with
              | err c q =>
                as_aux_lemma =>
                have hcq : c ≠ 0 ∧ q = k := numTok_err hnt
                obtain ⟨hc0, rfl⟩ := hcq
                have H45 : Hid (∀ w, Calls Tryd.prog 45 #[.string (s.extract q s.size)] w fun e w' => e = .returned (.tuple #[.int .i64 0, .int .i64 (runLen digitB ((bts s).drop q)), .int .i64 c]) ∧ w = w') := Lib.hid (fun w => by have := h45 w; rw [hnt] at this; exact this)
                clear h45
                have Hnt := Lib.hid hnt; clear hnt
                generalize runLen digitB ((bts s).drop q) = n at *
                go_wp2_with (first | (go_at_call 42; refine (f42_any _ _).mono ?_; rintro e w' ⟨rfl, rfl⟩; simp only [hBL]) | (go_at_call 43; refine (f43_any _ _).mono ?_; rintro e w' ⟨rfl, rfl⟩; simp only [hSg]) | (go_at_call 44; refine (f44_any _ _).mono ?_; rintro e w' ⟨rfl, rfl⟩; simp only [hDg]) | (go_at_call 45; refine (H45.out _).mono ?_; rintro e w' ⟨rfl, rfl⟩))
                refine bodyPost_ret (v := .tuple #[.slice none 0 0, .int .i64 (c : Int), .int .i64 (q : Nat)]) (by simp [results, Tryd.results21, go_sem]) rfl ?_
                exact tokens_err (c := c) (p := q) (by rw [← Htk.out]; exact tk_numErr HD.out hBL hL hDg Hnt.out) Hb.out
              | ok t =>
                as_aux_lemma =>
                have ht := numTok_ok hnt
                obtain ⟨hkind, hpos⟩ := numTok_ok2 hnt
                have H45 : Hid (∀ w, Calls Tryd.prog 45 #[.string (s.extract k s.size)] w fun e w' => e = .returned (.tuple #[.int .i64 t.n, .int .i64 (runLen digitB ((bts s).drop k)), .int .i64 0]) ∧ w = w') := Lib.hid (fun w => by have := h45 w; rw [hnt] at this; exact this)
                clear h45
                have Hnt := Lib.hid hnt; clear hnt
                generalize hn : runLen digitB ((bts s).drop k) = n at *
                have Hn := Lib.hid hn; clear hn
                have HT2 : Hid ([.int .i64 2, .string (s.extract k (k + n)), .int .i64 t.n, .int .i64 k] = tokCells t) := Lib.hid (by simp only [tokCells, strV, extract_bts, hkind, hpos, ht])
                clear ht hkind hpos
                go_wp2_with (first | (go_at_call 42; refine (f42_any _ _).mono ?_; rintro e w' ⟨rfl, rfl⟩; simp only [hBL]) | (go_at_call 43; refine (f43_any _ _).mono ?_; rintro e w' ⟨rfl, rfl⟩; simp only [hSg]) | (go_at_call 44; refine (f44_any _ _).mono ?_; rintro e w' ⟨rfl, rfl⟩; simp only [hDg]) | (go_at_call 45; refine (H45.out _).mono ?_; rintro e w' ⟨rfl, rfl⟩) | (at_builtin; refine append_cells (w0 := w) w.heap.size rfl _ _ 36 40 _ 4 40 rfl Tryd.underlying36 tokInfo rfl (by decide) (by decide) u5 acc.length (toksCells acc) [.int .i64 2, .string (s.extract k (k + n)), .int .i64 t.n, .int .i64 k] rfl rfl rfl ?h1 Ho.out Hb.out ?hb ?hl ?_))
                case h1 => first | exact ⟨rfl, rfl, rfl, rfl⟩ | (intro u hu; simp at hu; rcases hu with rfl | rfl | rfl | rfl <;> rfl)
                case hb => exact Hb.out.size
                case hl => omega
                intro g cap w1 ho1 hb1 hg1 hgb
                have Ho1 := Lib.hid ho1; clear ho1
                have Hb1 := Lib.hid hb1; clear hb1
                clear hg1
                go_wp2_with fail
                refine ⟨⟨k + n, f, acc ++ [t], by omega, by go_num, own_snoc HT2.out Ho1.out, Hb1.out, by simp; omega, by omega, by rw [← Htk.out, ← List.drop_drop]; exact (tk_num HD.out hBL hL hDg Hn.out Hnt.out).symm⟩, by simp [intOf]; omega⟩
          · obtain ⟨hL, hDg⟩ := sign_lone hSg
            as_aux_lemma =>
              go_wp2_with (first | (go_at_call 42; refine (f42_any _ _).mono ?_; rintro e w' ⟨rfl, rfl⟩; simp only [hBL]) | (go_at_call 43; refine (f43_any _ _).mono ?_; rintro e w' ⟨rfl, rfl⟩; simp only [hSg]) | (at_builtin; refine append_cells (w0 := w) w.heap.size rfl _ _ 36 40 _ 4 40 rfl Tryd.underlying36 tokInfo rfl (by decide) (by decide) u5 acc.length (toksCells acc) [.int .i64 3, .string (s.extract k (k + 1)), .int .i64 0, .int .i64 k] rfl rfl rfl ?h1 Ho.out Hb.out ?hb ?hl ?_))
              case h1 => first | exact ⟨rfl, rfl, rfl, rfl⟩ | (intro u hu; simp at hu; rcases hu with rfl | rfl | rfl | rfl <;> rfl)
              case hb => exact Hb.out.size
              case hl => omega
              intro g cap w1 ho1 hb1 hg1 hgb
              have Ho1 := Lib.hid ho1; clear ho1
              have Hb1 := Lib.hid hb1; clear hb1
              clear hg1
              go_wp2_with fail
              refine ⟨⟨k + 1, f, acc ++ [⟨3, ((bts s).drop k).take 1, 0, k⟩], by omega, by go_num, own_snoc (by simp [tokCells, strV, extract_bts]) Ho1.out, Hb1.out, by simp; omega, by omega, by rw [← Htk.out, ← List.drop_drop]; exact (tk_sign HD.out hBL hL hDg hSg).symm⟩, by simp [intOf]; omega⟩
        · as_aux_lemma =>
            go_wp2_with (go_at_call 42; refine (f42_any _ _).mono ?_; rintro e w' ⟨rfl, rfl⟩; simp only [hBL])
            go_roundw
            case rel => exact ⟨k + 1, f, acc, by omega, by go_num, Ho.out, Hb.out, by omega, by omega, by rw [← Htk.out, HD.out, tk_blank hBL]⟩
            case measure => simp [intOf]; omega
      · have Hdr : Hid (toks (bts s) = .ok acc) := Lib.hid (by rw [← Htk.out, List.drop_eq_nil_of_le (by rw [bts_len]; omega), tk_nil])
        go_wp2_with fail
        refine bodyPost_ret (v := .tuple #[u5, .int .i64 0, .int .i64 0]) (by simp [results, Tryd.results21, go_sem]) rfl ?_
        exact tokens_ok Hdr.out Ho.out Hb.out
end Go.Proofs.YtcaaadhhaanbcaaDoor
