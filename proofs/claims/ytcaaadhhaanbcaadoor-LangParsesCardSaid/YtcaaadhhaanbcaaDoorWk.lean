/- The walks of the reference's scan: its tokens, or its first error with the place, are the plain ones. -/
import Derived.Test.YtcaaadhhaanbcaaDoorWj
namespace Go.Proofs.YtcaaadhhaanbcaaDoor
open Go.RowKit

set_option maxHeartbeats 400000 in
theorem f46_any : SaysB 46 letterB := by
  intro b w
  go_enter Tryd.func46, Tryd.ntmps46
  go_wp2
  all_goals go_ret
  all_goals exact ⟨by simp [letterB]; omega, rfl⟩
set_option maxHeartbeats 400000 in
theorem f44_any : SaysB 44 digitB := by
  intro b w
  go_enter Tryd.func44, Tryd.ntmps44
  go_wp2
  all_goals go_ret
  all_goals exact ⟨by simp [digitB]; omega, rfl⟩
set_option maxHeartbeats 1000000 in
theorem f42_any : SaysB 42 blankB := by
  intro b w
  cases h32 : (b == 32) with
  | true =>
    go_enter Tryd.func42, Tryd.ntmps42
    go_wp2
    go_ret
    exact ⟨by simp [blankB, h32], rfl⟩
  | false =>
    cases h9 : (b == 9) with
    | true =>
      go_enter Tryd.func42, Tryd.ntmps42
      go_wp2
      go_ret
      exact ⟨by simp [blankB, h9], rfl⟩
    | false =>
      cases h10 : (b == 10) with
      | true =>
        go_enter Tryd.func42, Tryd.ntmps42
        go_wp2
        go_ret
        exact ⟨by simp [blankB, h10], rfl⟩
      | false =>
        go_enter Tryd.func42, Tryd.ntmps42
        go_wp2
        go_ret
        exact ⟨by simp [blankB, h32, h9, h10], rfl⟩
set_option maxHeartbeats 1000000 in
theorem f43_any : SaysB 43 signB := by
  intro b w
  cases h40 : (b == 40) with
  | true =>
    go_enter Tryd.func43, Tryd.ntmps43
    go_wp2
    go_ret
    exact ⟨by simp [signB, h40], rfl⟩
  | false =>
    cases h41 : (b == 41) with
    | true =>
      go_enter Tryd.func43, Tryd.ntmps43
      go_wp2
      go_ret
      exact ⟨by simp [signB, h41], rfl⟩
    | false =>
      cases h91 : (b == 91) with
      | true =>
        go_enter Tryd.func43, Tryd.ntmps43
        go_wp2
        go_ret
        exact ⟨by simp [signB, h91], rfl⟩
      | false =>
        cases h93 : (b == 93) with
        | true =>
          go_enter Tryd.func43, Tryd.ntmps43
          go_wp2
          go_ret
          exact ⟨by simp [signB, h93], rfl⟩
        | false =>
          cases h44 : (b == 44) with
          | true =>
            go_enter Tryd.func43, Tryd.ntmps43
            go_wp2
            go_ret
            exact ⟨by simp [signB, h44], rfl⟩
          | false =>
            go_enter Tryd.func43, Tryd.ntmps43
            go_wp2
            go_ret
            exact ⟨by simp [signB, h40, h41, h91, h93, h44], rfl⟩

def NumR (r : R Tok) (n : Nat) : Value :=
  match r with
  | .ok t => .tuple #[.int .i64 t.n, .int .i64 n, .int .i64 0]
  | .err c _ => .tuple #[.int .i64 0, .int .i64 n, .int .i64 c]

theorem byteSub (b : UInt8) (h0 : 48 ≤ b.toNat) : (IntKind.wrap .u8 ((b.toNat : Int) - 48)) = (b.toNat : Int) - 48 := by
  have := b.toNat_lt
  simp [IntKind.wrap, IntKind.bits, IntKind.signed]
  omega

set_option maxRecDepth 100000 in
set_option maxHeartbeats 4000000 in
theorem f45_any (s : ByteArray) (hs : s.size ≤ maxLen) (p : Nat) (hi : 0 < s.size) (hd : digitB (s[0].toNat : Int) = true) (w : World) :
    Calls Tryd.prog 45 #[.string s] w fun e w' => e = .returned (NumR (numTok (bts s) p) (runLen digitB (bts s))) ∧ w = w' := by
  unfold maxLen at hs
  have hl0 : (bts s).drop 0 = bts s := List.drop_zero
  have hm := runLen_le digitB (bts s)
  rw [bts_len] at hm
  have hgt : 0 < runLen digitB (bts s) := by rw [← hl0, run_yes _ s 0 hi hd]; omega
  have hget := runLen_get digitB (bts s)
  generalize hn : runLen digitB (bts s) = n at *
  have Hn := Lib.hid hn; clear hn
  have Hget := Lib.hid hget; clear hget
  have h0s : bts s = s[0] :: (bts s).drop 1 := by have := drop_cons s 0 hi; rwa [hl0] at this
  have LEAD : Hid (1 < n → lead0 (bts s) = false → ((s[0].toNat : Int) == 48) = false) := Lib.hid (by
    intro h1 h2; simp only [lead0, Hn.out, h1, decide_true, Bool.true_and] at h2; rw [h0s] at h2; exact h2)
  have LEADT : Hid (lead0 (bts s) = true → 1 < n ∧ ((s[0].toNat : Int) == 48) = true) := Lib.hid (by
    intro h2; simp only [lead0, Hn.out, Bool.and_eq_true, decide_eq_true_eq] at h2; rw [h0s] at h2; exact h2)
  have BADE : Hid (∀ h : n < s.size, badEnd (bts s) = (letterB (s[n].toNat : Int) || (s[n].toNat : Int) == 95)) := Lib.hid (by
    intro h; simp only [badEnd, Hn.out]; rw [drop_cons s n h])
  have BADN : Hid (¬ n < s.size → badEnd (bts s) = false) := Lib.hid (by
    intro h; simp only [badEnd, Hn.out]; rw [List.drop_eq_nil_of_le (by rw [bts_len]; omega)])
  have STOP : Hid (∀ h : n < s.size, digitB (s[n].toNat : Int) = false) := Lib.hid (by
    intro h; have h2 := runLen_stop digitB (bts s) (by rw [Hn.out, bts_len]; omega); simp only [Hn.out] at h2; exact h2)
  clear h0s hl0
  go_enter Tryd.func45, Tryd.ntmps45
  go_wp2_with fail
  go_loop [5] (fun t => ∃ k : Nat, k ≤ n ∧ t = .int .i64 k) (fun t => n - (intOf t).toNat)
  case atStart => exact ⟨0, by omega, rfl⟩
  case round =>
    obtain ⟨k, hk, rfl⟩ := hrel
    by_cases hlt : k < n
    · have hb : digitB (s[k].toNat : Int) = true := Hget.out k (by rw [bts_len]; omega) hlt
      go_wp2_with (go_at_call 44; refine (f44_any _ _).mono ?_; rintro e w' ⟨rfl, rfl⟩)
      go_round
      case rel => exact ⟨k + 1, by omega, by go_num⟩
      case measure => simp [intOf]; omega
    · obtain rfl : k = n := by omega
      by_cases hend : k < s.size
      · have HB := Lib.hid (BADE.out hend)
        have hdn : digitB (s[k].toNat : Int) = false := STOP.out hend
        cases hl : letterB (s[k].toNat : Int)
        · cases h95 : ((s[k].toNat : Int) == 95)
          · have HBE : Hid (badEnd (bts s) = false) := Lib.hid (by rw [HB.out, hl, h95]; rfl)
            cases hz : lead0 (bts s)
            · have HZ := Lib.hid hz; clear hz
              by_cases h1 : 1 < k
              · have h0 : ((s[0].toNat : Int) == 48) = false := LEAD.out h1 HZ.out
                go_wp2_with (first | (go_at_call 44; refine (f44_any _ _).mono ?_; rintro e w' ⟨rfl, rfl⟩; simp only [hdn]) | (go_at_call 46; refine (f46_any _ _).mono ?_; rintro e w' ⟨rfl, rfl⟩; simp only [hl]))
                go_loop [6, 7] (fun v t => ∃ (j : Nat) (acc : Int), j ≤ k ∧ v = .int .i64 acc ∧ t = .int .i64 j ∧ 0 ≤ acc ∧ acc ≤ 9999999 ∧ numV (((bts s).take k).drop j) acc = numV ((bts s).take k) 0) (fun _ t => k - (intOf t).toNat)
                case atStart => exact ⟨0, 0, by omega, rfl, rfl, by omega, by omega, rfl⟩
                case round =>
                  obtain ⟨j, acc, hj, rfl, rfl, ha0, ha1, hv⟩ := hrel
                  have Hv := Lib.hid hv; clear hv
                  by_cases hlt2 : j < k
                  · have hdj : digitB (s[j].toNat : Int) = true := Hget.out j (by rw [bts_len]; omega) hlt2
                    have hdr : Hid (((bts s).take k).drop j = s[j] :: ((bts s).take k).drop (j + 1)) := Lib.hid (by
                      rw [List.drop_eq_getElem_cons (by rw [List.length_take, bts_len]; omega)]; congr 1; rw [List.getElem_take]; rfl)
                    have hdj' := hdj
                    simp only [digitB, Bool.and_eq_true, decide_eq_true_eq] at hdj'
                    obtain ⟨hd0, hd1⟩ := hdj'
                    have hsub : (IntKind.wrap .u8 ((s[j].toNat : Int) - 48)) = (s[j].toNat : Int) - 48 := byteSub _ (by omega)
                    generalize hb : s[j] = b at *
                    by_cases hbig : acc * 10 + ((b.toNat : Int) - 48) > 9999999
                    · go_wp2_with fail
                      refine bodyPost_ret (v := .tuple #[.int .i64 (0 : Int), .int .i64 (k : Nat), .int .i64 (8 : Int)]) (by simp [results, Tryd.results45, go_sem]) rfl ?_
                      have hnt : numTok (bts s) p = .err 8 p := num_none _ p k Hn.out HBE.out HZ.out (by rw [← Hv.out, hdr.out]; simp only [numV]; rw [if_pos (by omega)])
                      rw [hnt]
                      exact ⟨rfl, rfl⟩
                    · go_wp2_with fail
                      go_round
                      case rel => exact ⟨j + 1, _, by omega, rfl, by go_num, by omega, by omega, by rw [← Hv.out, hdr.out]; simp only [numV]; rw [if_neg (by omega)]⟩
                      case measure => simp [intOf]; omega
                  · obtain rfl : j = k := by omega
                    have hnt : Hid (numTok (bts s) p = .ok ⟨2, (bts s).take j, acc, p⟩) := Lib.hid (num_some _ p j acc Hn.out HBE.out HZ.out (by rw [← Hv.out, List.drop_eq_nil_of_le (by rw [List.length_take]; omega)]; rfl))
                    go_wp2_with fail
                    refine bodyPost_ret (v := .tuple #[.int .i64 (acc : Int), .int .i64 (j : Nat), .int .i64 (0 : Int)]) (by simp [results, Tryd.results45, go_sem]) rfl ?_
                    rw [hnt.out]
                    exact ⟨rfl, rfl⟩
              ·
                go_wp2_with (first | (go_at_call 44; refine (f44_any _ _).mono ?_; rintro e w' ⟨rfl, rfl⟩; simp only [hdn]) | (go_at_call 46; refine (f46_any _ _).mono ?_; rintro e w' ⟨rfl, rfl⟩; simp only [hl]))
                go_loop [6, 7] (fun v t => ∃ (j : Nat) (acc : Int), j ≤ k ∧ v = .int .i64 acc ∧ t = .int .i64 j ∧ 0 ≤ acc ∧ acc ≤ 9999999 ∧ numV (((bts s).take k).drop j) acc = numV ((bts s).take k) 0) (fun _ t => k - (intOf t).toNat)
                case atStart => exact ⟨0, 0, by omega, rfl, rfl, by omega, by omega, rfl⟩
                case round =>
                  obtain ⟨j, acc, hj, rfl, rfl, ha0, ha1, hv⟩ := hrel
                  have Hv := Lib.hid hv; clear hv
                  by_cases hlt2 : j < k
                  · have hdj : digitB (s[j].toNat : Int) = true := Hget.out j (by rw [bts_len]; omega) hlt2
                    have hdr : Hid (((bts s).take k).drop j = s[j] :: ((bts s).take k).drop (j + 1)) := Lib.hid (by
                      rw [List.drop_eq_getElem_cons (by rw [List.length_take, bts_len]; omega)]; congr 1; rw [List.getElem_take]; rfl)
                    have hdj' := hdj
                    simp only [digitB, Bool.and_eq_true, decide_eq_true_eq] at hdj'
                    obtain ⟨hd0, hd1⟩ := hdj'
                    have hsub : (IntKind.wrap .u8 ((s[j].toNat : Int) - 48)) = (s[j].toNat : Int) - 48 := byteSub _ (by omega)
                    generalize hb : s[j] = b at *
                    by_cases hbig : acc * 10 + ((b.toNat : Int) - 48) > 9999999
                    · go_wp2_with fail
                      refine bodyPost_ret (v := .tuple #[.int .i64 (0 : Int), .int .i64 (k : Nat), .int .i64 (8 : Int)]) (by simp [results, Tryd.results45, go_sem]) rfl ?_
                      have hnt : numTok (bts s) p = .err 8 p := num_none _ p k Hn.out HBE.out HZ.out (by rw [← Hv.out, hdr.out]; simp only [numV]; rw [if_pos (by omega)])
                      rw [hnt]
                      exact ⟨rfl, rfl⟩
                    · go_wp2_with fail
                      go_round
                      case rel => exact ⟨j + 1, _, by omega, rfl, by go_num, by omega, by omega, by rw [← Hv.out, hdr.out]; simp only [numV]; rw [if_neg (by omega)]⟩
                      case measure => simp [intOf]; omega
                  · obtain rfl : j = k := by omega
                    have hnt : Hid (numTok (bts s) p = .ok ⟨2, (bts s).take j, acc, p⟩) := Lib.hid (num_some _ p j acc Hn.out HBE.out HZ.out (by rw [← Hv.out, List.drop_eq_nil_of_le (by rw [List.length_take]; omega)]; rfl))
                    go_wp2_with fail
                    refine bodyPost_ret (v := .tuple #[.int .i64 (acc : Int), .int .i64 (j : Nat), .int .i64 (0 : Int)]) (by simp [results, Tryd.results45, go_sem]) rfl ?_
                    rw [hnt.out]
                    exact ⟨rfl, rfl⟩
            · have HBAD : Hid (numTok (bts s) p = .err 14 p) := Lib.hid (by simp [numTok, hz])
              obtain ⟨h1, h0⟩ := LEADT.out hz
              clear hz
              go_wp2_with (first | (go_at_call 44; refine (f44_any _ _).mono ?_; rintro e w' ⟨rfl, rfl⟩; simp only [hdn]) | (go_at_call 46; refine (f46_any _ _).mono ?_; rintro e w' ⟨rfl, rfl⟩; simp only [hl]))
              refine bodyPost_ret (v := .tuple #[.int .i64 (0 : Int), .int .i64 (k : Nat), .int .i64 (14 : Int)]) (by simp [results, Tryd.results45, go_sem]) rfl ?_
              rw [HBAD.out]
              exact ⟨rfl, rfl⟩
          · have HBAD : Hid (numTok (bts s) p = .err 14 p) := Lib.hid (by simp [numTok, HB.out, h95])
            by_cases h1 : 1 < k
            · cases h0 : ((s[0].toNat : Int) == 48)
              ·
                go_wp2_with (first | (go_at_call 44; refine (f44_any _ _).mono ?_; rintro e w' ⟨rfl, rfl⟩; simp only [hdn]) | (go_at_call 46; refine (f46_any _ _).mono ?_; rintro e w' ⟨rfl, rfl⟩; simp only [hl]))
                refine bodyPost_ret (v := .tuple #[.int .i64 (0 : Int), .int .i64 (k : Nat), .int .i64 (14 : Int)]) (by simp [results, Tryd.results45, go_sem]) rfl ?_
                rw [HBAD.out]
                exact ⟨rfl, rfl⟩
              ·
                go_wp2_with (first | (go_at_call 44; refine (f44_any _ _).mono ?_; rintro e w' ⟨rfl, rfl⟩; simp only [hdn]) | (go_at_call 46; refine (f46_any _ _).mono ?_; rintro e w' ⟨rfl, rfl⟩; simp only [hl]))
                refine bodyPost_ret (v := .tuple #[.int .i64 (0 : Int), .int .i64 (k : Nat), .int .i64 (14 : Int)]) (by simp [results, Tryd.results45, go_sem]) rfl ?_
                rw [HBAD.out]
                exact ⟨rfl, rfl⟩
            ·
              go_wp2_with (first | (go_at_call 44; refine (f44_any _ _).mono ?_; rintro e w' ⟨rfl, rfl⟩; simp only [hdn]) | (go_at_call 46; refine (f46_any _ _).mono ?_; rintro e w' ⟨rfl, rfl⟩; simp only [hl]))
              refine bodyPost_ret (v := .tuple #[.int .i64 (0 : Int), .int .i64 (k : Nat), .int .i64 (14 : Int)]) (by simp [results, Tryd.results45, go_sem]) rfl ?_
              rw [HBAD.out]
              exact ⟨rfl, rfl⟩
        · have HBAD : Hid (numTok (bts s) p = .err 14 p) := Lib.hid (by simp [numTok, HB.out, hl])
          by_cases h1 : 1 < k
          · cases h0 : ((s[0].toNat : Int) == 48)
            ·
              go_wp2_with (first | (go_at_call 44; refine (f44_any _ _).mono ?_; rintro e w' ⟨rfl, rfl⟩; simp only [hdn]) | (go_at_call 46; refine (f46_any _ _).mono ?_; rintro e w' ⟨rfl, rfl⟩; simp only [hl]))
              refine bodyPost_ret (v := .tuple #[.int .i64 (0 : Int), .int .i64 (k : Nat), .int .i64 (14 : Int)]) (by simp [results, Tryd.results45, go_sem]) rfl ?_
              rw [HBAD.out]
              exact ⟨rfl, rfl⟩
            ·
              go_wp2_with (first | (go_at_call 44; refine (f44_any _ _).mono ?_; rintro e w' ⟨rfl, rfl⟩; simp only [hdn]) | (go_at_call 46; refine (f46_any _ _).mono ?_; rintro e w' ⟨rfl, rfl⟩; simp only [hl]))
              refine bodyPost_ret (v := .tuple #[.int .i64 (0 : Int), .int .i64 (k : Nat), .int .i64 (14 : Int)]) (by simp [results, Tryd.results45, go_sem]) rfl ?_
              rw [HBAD.out]
              exact ⟨rfl, rfl⟩
          ·
            go_wp2_with (first | (go_at_call 44; refine (f44_any _ _).mono ?_; rintro e w' ⟨rfl, rfl⟩; simp only [hdn]) | (go_at_call 46; refine (f46_any _ _).mono ?_; rintro e w' ⟨rfl, rfl⟩; simp only [hl]))
            refine bodyPost_ret (v := .tuple #[.int .i64 (0 : Int), .int .i64 (k : Nat), .int .i64 (14 : Int)]) (by simp [results, Tryd.results45, go_sem]) rfl ?_
            rw [HBAD.out]
            exact ⟨rfl, rfl⟩
      · have HBE := Lib.hid (BADN.out hend)
        cases hz : lead0 (bts s)
        · have HZ := Lib.hid hz; clear hz
          by_cases h1 : 1 < k
          · have h0 : ((s[0].toNat : Int) == 48) = false := LEAD.out h1 HZ.out
            go_wp2_with (fail)
            go_loop [6, 7] (fun v t => ∃ (j : Nat) (acc : Int), j ≤ k ∧ v = .int .i64 acc ∧ t = .int .i64 j ∧ 0 ≤ acc ∧ acc ≤ 9999999 ∧ numV (((bts s).take k).drop j) acc = numV ((bts s).take k) 0) (fun _ t => k - (intOf t).toNat)
            case atStart => exact ⟨0, 0, by omega, rfl, rfl, by omega, by omega, rfl⟩
            case round =>
              obtain ⟨j, acc, hj, rfl, rfl, ha0, ha1, hv⟩ := hrel
              have Hv := Lib.hid hv; clear hv
              by_cases hlt2 : j < k
              · have hdj : digitB (s[j].toNat : Int) = true := Hget.out j (by rw [bts_len]; omega) hlt2
                have hdr : Hid (((bts s).take k).drop j = s[j] :: ((bts s).take k).drop (j + 1)) := Lib.hid (by
                  rw [List.drop_eq_getElem_cons (by rw [List.length_take, bts_len]; omega)]; congr 1; rw [List.getElem_take]; rfl)
                have hdj' := hdj
                simp only [digitB, Bool.and_eq_true, decide_eq_true_eq] at hdj'
                obtain ⟨hd0, hd1⟩ := hdj'
                have hsub : (IntKind.wrap .u8 ((s[j].toNat : Int) - 48)) = (s[j].toNat : Int) - 48 := byteSub _ (by omega)
                generalize hb : s[j] = b at *
                by_cases hbig : acc * 10 + ((b.toNat : Int) - 48) > 9999999
                · go_wp2_with fail
                  refine bodyPost_ret (v := .tuple #[.int .i64 (0 : Int), .int .i64 (k : Nat), .int .i64 (8 : Int)]) (by simp [results, Tryd.results45, go_sem]) rfl ?_
                  have hnt : numTok (bts s) p = .err 8 p := num_none _ p k Hn.out HBE.out HZ.out (by rw [← Hv.out, hdr.out]; simp only [numV]; rw [if_pos (by omega)])
                  rw [hnt]
                  exact ⟨rfl, rfl⟩
                · go_wp2_with fail
                  go_round
                  case rel => exact ⟨j + 1, _, by omega, rfl, by go_num, by omega, by omega, by rw [← Hv.out, hdr.out]; simp only [numV]; rw [if_neg (by omega)]⟩
                  case measure => simp [intOf]; omega
              · obtain rfl : j = k := by omega
                have hnt : Hid (numTok (bts s) p = .ok ⟨2, (bts s).take j, acc, p⟩) := Lib.hid (num_some _ p j acc Hn.out HBE.out HZ.out (by rw [← Hv.out, List.drop_eq_nil_of_le (by rw [List.length_take]; omega)]; rfl))
                go_wp2_with fail
                refine bodyPost_ret (v := .tuple #[.int .i64 (acc : Int), .int .i64 (j : Nat), .int .i64 (0 : Int)]) (by simp [results, Tryd.results45, go_sem]) rfl ?_
                rw [hnt.out]
                exact ⟨rfl, rfl⟩
          ·
            go_wp2_with (fail)
            go_loop [6, 7] (fun v t => ∃ (j : Nat) (acc : Int), j ≤ k ∧ v = .int .i64 acc ∧ t = .int .i64 j ∧ 0 ≤ acc ∧ acc ≤ 9999999 ∧ numV (((bts s).take k).drop j) acc = numV ((bts s).take k) 0) (fun _ t => k - (intOf t).toNat)
            case atStart => exact ⟨0, 0, by omega, rfl, rfl, by omega, by omega, rfl⟩
            case round =>
              obtain ⟨j, acc, hj, rfl, rfl, ha0, ha1, hv⟩ := hrel
              have Hv := Lib.hid hv; clear hv
              by_cases hlt2 : j < k
              · have hdj : digitB (s[j].toNat : Int) = true := Hget.out j (by rw [bts_len]; omega) hlt2
                have hdr : Hid (((bts s).take k).drop j = s[j] :: ((bts s).take k).drop (j + 1)) := Lib.hid (by
                  rw [List.drop_eq_getElem_cons (by rw [List.length_take, bts_len]; omega)]; congr 1; rw [List.getElem_take]; rfl)
                have hdj' := hdj
                simp only [digitB, Bool.and_eq_true, decide_eq_true_eq] at hdj'
                obtain ⟨hd0, hd1⟩ := hdj'
                have hsub : (IntKind.wrap .u8 ((s[j].toNat : Int) - 48)) = (s[j].toNat : Int) - 48 := byteSub _ (by omega)
                generalize hb : s[j] = b at *
                by_cases hbig : acc * 10 + ((b.toNat : Int) - 48) > 9999999
                · go_wp2_with fail
                  refine bodyPost_ret (v := .tuple #[.int .i64 (0 : Int), .int .i64 (k : Nat), .int .i64 (8 : Int)]) (by simp [results, Tryd.results45, go_sem]) rfl ?_
                  have hnt : numTok (bts s) p = .err 8 p := num_none _ p k Hn.out HBE.out HZ.out (by rw [← Hv.out, hdr.out]; simp only [numV]; rw [if_pos (by omega)])
                  rw [hnt]
                  exact ⟨rfl, rfl⟩
                · go_wp2_with fail
                  go_round
                  case rel => exact ⟨j + 1, _, by omega, rfl, by go_num, by omega, by omega, by rw [← Hv.out, hdr.out]; simp only [numV]; rw [if_neg (by omega)]⟩
                  case measure => simp [intOf]; omega
              · obtain rfl : j = k := by omega
                have hnt : Hid (numTok (bts s) p = .ok ⟨2, (bts s).take j, acc, p⟩) := Lib.hid (num_some _ p j acc Hn.out HBE.out HZ.out (by rw [← Hv.out, List.drop_eq_nil_of_le (by rw [List.length_take]; omega)]; rfl))
                go_wp2_with fail
                refine bodyPost_ret (v := .tuple #[.int .i64 (acc : Int), .int .i64 (j : Nat), .int .i64 (0 : Int)]) (by simp [results, Tryd.results45, go_sem]) rfl ?_
                rw [hnt.out]
                exact ⟨rfl, rfl⟩
        · have HBAD : Hid (numTok (bts s) p = .err 14 p) := Lib.hid (by simp [numTok, hz])
          obtain ⟨h1, h0⟩ := LEADT.out hz
          clear hz
          go_wp2_with (fail)
          refine bodyPost_ret (v := .tuple #[.int .i64 (0 : Int), .int .i64 (k : Nat), .int .i64 (14 : Int)]) (by simp [results, Tryd.results45, go_sem]) rfl ?_
          rw [HBAD.out]
          exact ⟨rfl, rfl⟩end Go.Proofs.YtcaaadhhaanbcaaDoor
