/- The walks of the reference's Check: its digits, names, forms, lists, depth, text. -/
import Derived.Test.YtcaaadhhaanbcaaDoorWs
import Derived.Test.YtcaaadhhaanbcaaDoorWk
namespace Go.Proofs.YtcaaadhhaanbcaaDoor
open Go.RowKit
theorem enc_digit_fin : ∀ i : Fin 10, Utf8.encode (48 + (i.val : Int)) = ⟨#[UInt8.ofNat (48 + i.val)]⟩ := by decide +kernel
theorem enc_digit (d : Nat) (h : d < 10) : Utf8.encode (48 + (d : Int)) = ⟨#[UInt8.ofNat (48 + d)]⟩ := enc_digit_fin ⟨d, h⟩
/-- What stands ahead of the digits already written. -/
def preD (u : Nat) : List UInt8 := if u < 10 then [] else Lib.decDigits (u / 10)
theorem preD_all (u : Nat) : Lib.decDigits u = preD u ++ [UInt8.ofNat (48 + u % 10)] := by
  rw [Lib.decDigits]; unfold preD; split
  · rw [Nat.mod_eq_of_lt (by assumption)]; simp
  · rfl

theorem strV_enc (d : Nat) (h : d < 10) : Value.string (Utf8.encode (48 + (d : Int))) = strV [UInt8.ofNat (48 + d)] := by rw [enc_digit d h]
theorem strV_enc_app (d : Nat) (h : d < 10) (l : List UInt8) : Value.string (Utf8.encode (48 + (d : Int)) ++ ⟨l.toArray⟩) = strV (UInt8.ofNat (48 + d) :: l) := by
  rw [enc_digit d h]
  show Value.string _ = Value.string _
  congr 1
theorem itoa_nat_len (n : Nat) (h2 : n ≤ 9223372036854775807) : (Lib.decDigits n).length ≤ 21 := by
  have := Lib.itoa_length_le n (by omega) (by omega)
  rwa [Lib.itoa_nonneg] at this

theorem f41_any (n : Nat) (w : World) (h2 : n ≤ 9223372036854775807) : Calls Tryd.prog 41 #[.int .i64 n] w fun e w' => e = .returned (strV (Lib.itoa n)) ∧ w = w' := by
  have hlen := itoa_nat_len n h2
  go_enter Tryd.func41, Tryd.ntmps41
  go_wp2_with fail
  go_loop [0, 3] (fun i o => ∃ (u : Nat) (acc : List UInt8), u ≤ 9223372036854775807 ∧ i = .int .i64 u ∧ o = strV acc ∧ Lib.decDigits n = preD u ++ acc) (fun i _ => (intOf i).toNat)
  case atStart => exact ⟨n, [UInt8.ofNat (48 + n % 10)], h2, rfl, strV_enc (n % 10) (by omega), preD_all n⟩
  case round =>
    obtain ⟨u, acc, hu, rfl, rfl, hd⟩ := hrel
    have hal : acc.length ≤ 21 := by rw [hd] at hlen; simp at hlen; omega
    have Hd := Lib.hid hd; clear hd
    by_cases h10 : (10 : Int) ≤ (u : Int)
    · have hsz : ¬ 9223372036854775807 < (Utf8.encode (48 + (u : Int) / 10 % 10)).size + acc.length := by
        have : (u : Int) / 10 % 10 = ((u / 10 % 10 : Nat) : Int) := by omega
        rw [this, enc_digit _ (by omega)]
        show ¬ _ < 1 + acc.length
        omega
      go_wp2_with fail
      refine ⟨⟨u / 10, UInt8.ofNat (48 + u / 10 % 10) :: acc, by omega, by go_num, ?_, ?_⟩, by simp [intOf]; omega⟩
      · have := strV_enc_app (u / 10 % 10) (by omega) acc
        rw [← this]; rfl
      · rw [Hd.out, show preD u = Lib.decDigits (u / 10) by unfold preD; rw [if_neg (by omega)], preD_all (u / 10)]; simp
    · go_wp2_with fail
      go_ret
      refine ⟨?_, rfl⟩
      rw [Lib.itoa_nonneg, Hd.out, show preD u = [] by unfold preD; rw [if_pos (by omega)]]; rfl

theorem f69_any (z : Int) (w : World) : Calls Tryd.prog 69 #[.int .i64 z] w fun e w' => e = .returned (.bool (isNum z)) ∧ w = w' := by
  go_enter Tryd.func69, Tryd.ntmps69
  go_wp2
  all_goals go_ret
  all_goals exact ⟨by simp [isNum]; try omega, rfl⟩

theorem isNam_mid (s : ByteArray) (h1 : 0 < s.size) (h2 : s.size ≤ 16) : isNam (bts s) = (letterB (s[0].toNat : Int) && (runLen nameB (bts s) == s.size)) := by
  obtain ⟨⟨l⟩⟩ := s
  cases l with
  | nil => simp [ByteArray.size] at h1
  | cons c r =>
    have h3 : (c :: r).length ≤ 16 := h2
    show isNam (c :: r) = (letterB (c.toNat : Int) && (runLen nameB (c :: r) == (c :: r).length))
    simp only [isNam, decide_eq_true h3, Bool.true_and]
theorem isNam_long (s : ByteArray) (h2 : 16 < s.size) : isNam (bts s) = false := by
  obtain ⟨⟨l⟩⟩ := s
  cases l with
  | nil => rfl
  | cons c r =>
    have h3 : ¬ (c :: r).length ≤ 16 := Nat.not_le_of_lt h2
    show isNam (c :: r) = false
    simp only [isNam, decide_eq_false h3, Bool.false_and]
theorem isNam_none (s : ByteArray) (h2 : s.size = 0) : isNam (bts s) = false := by
  obtain ⟨⟨l⟩⟩ := s
  cases l with
  | nil => rfl
  | cons c r => simp [ByteArray.size] at h2

set_option maxHeartbeats 1000000 in
theorem f68_s (s : ByteArray) (w : World) : Calls Tryd.prog 68 #[.string s] w fun e w' => e = .returned (.bool (isNam (bts s))) ∧ w = w' := by
  have hnot : ∀ (x : Bool) (w : World), (Op.unary .not (.bool x)).run Tryd.prog w = .ok (.bool (!x)) w := fun _ _ => rfl
  rcases Nat.eq_zero_or_pos s.size with h0 | h0
  · have HR := Lib.hid (isNam_none s h0)
    have h0i : (s.size : Int) < 1 := by omega
    go_enter Tryd.func68, Tryd.ntmps68
    go_wp2_with fail
    go_ret
    exact ⟨by rw [HR.out]; rfl, rfl⟩
  · have h0i : ¬ (s.size : Int) < 1 := by omega
    by_cases h16 : s.size ≤ 16
    · have h16i : ¬ (16 : Int) < (s.size : Int) := by omega
      have HR := Lib.hid (isNam_mid s h0 h16)
      cases hL : letterB (s[0].toNat : Int)
      · go_enter Tryd.func68, Tryd.ntmps68
        go_wp2_with (go_at_call 46; refine (f46_any _ _).mono ?_; rintro e w' ⟨rfl, rfl⟩)
        go_ret
        exact ⟨by rw [HR.out, hL]; rfl, rfl⟩
      · go_enter Tryd.func68, Tryd.ntmps68
        go_wp2_with (go_at_call 46; refine (f46_any _ _).mono ?_; rintro e w' ⟨rfl, rfl⟩)
        go_loop [3] (fun t => ∃ k : Nat, k ≤ s.size ∧ k + runLen nameB ((bts s).drop k) = runLen nameB (bts s) ∧ t = .int .i64 k) (fun t => s.size - (intOf t).toNat)
        case atStart => exact ⟨0, by omega, by simp, rfl⟩
        case round =>
          obtain ⟨k, hk, he, rfl⟩ := hrel
          have He := Lib.hid he; clear he
          by_cases hlt : k < s.size
          · cases hb1 : letterB (s[k].toNat : Int)
            · cases hb2 : digitB (s[k].toNat : Int)
              · by_cases hb3 : (s[k].toNat : Int) = 95
                · have hb : nameB (s[k].toNat : Int) = true := by rw [nameB, hb1, hb2, hb3]; rfl
                  have Hr := Lib.hid (run_yes _ s k hlt hb)
                  go_wp2_with (first | (go_at_call 46; refine (f46_any _ _).mono ?_; rintro e w' ⟨rfl, rfl⟩) | (go_at_call 44; refine (f44_any _ _).mono ?_; rintro e w' ⟨rfl, rfl⟩))
                  go_round
                  case rel => exact ⟨k + 1, by omega, by have := He.out; have := Hr.out; omega, by go_num⟩
                  case measure => simp [intOf]; omega
                · have hb : nameB (s[k].toNat : Int) = false := by rw [nameB, hb1, hb2]; simpa using hb3
                  have Hr := Lib.hid (run_no _ s k hlt hb)
                  go_wp2_with (first | (go_at_call 46; refine (f46_any _ _).mono ?_; rintro e w' ⟨rfl, rfl⟩) | (go_at_call 44; refine (f44_any _ _).mono ?_; rintro e w' ⟨rfl, rfl⟩))
                  go_ret
                  refine ⟨?_, rfl⟩
                  have h1 := He.out
                  have h2 := Hr.out
                  rw [HR.out, hL, Bool.true_and, show (runLen nameB (bts s) == s.size) = false by simp; omega]; rfl
              · have hb : nameB (s[k].toNat : Int) = true := by rw [nameB, hb1, hb2]; rfl
                have Hr := Lib.hid (run_yes _ s k hlt hb)
                go_wp2_with (first | (go_at_call 46; refine (f46_any _ _).mono ?_; rintro e w' ⟨rfl, rfl⟩) | (go_at_call 44; refine (f44_any _ _).mono ?_; rintro e w' ⟨rfl, rfl⟩))
                go_round
                case rel => exact ⟨k + 1, by omega, by have := He.out; have := Hr.out; omega, by go_num⟩
                case measure => simp [intOf]; omega
            · have hb : nameB (s[k].toNat : Int) = true := by rw [nameB, hb1]; rfl
              have Hr := Lib.hid (run_yes _ s k hlt hb)
              go_wp2_with (first | (go_at_call 46; refine (f46_any _ _).mono ?_; rintro e w' ⟨rfl, rfl⟩) | (go_at_call 44; refine (f44_any _ _).mono ?_; rintro e w' ⟨rfl, rfl⟩))
              go_round
              case rel => exact ⟨k + 1, by omega, by have := He.out; have := Hr.out; omega, by go_num⟩
              case measure => simp [intOf]; omega
          · have Hr := Lib.hid (run_end nameB s k hlt)
            go_wp2_with fail
            go_ret
            refine ⟨?_, rfl⟩
            have h1 := He.out
            have h2 := Hr.out
            rw [HR.out, hL, Bool.true_and, show (runLen nameB (bts s) == s.size) = true by simp; omega]; rfl
    · have HR := Lib.hid (isNam_long s (by omega))
      have h16i : (16 : Int) < (s.size : Int) := by omega
      go_enter Tryd.func68, Tryd.ntmps68
      go_wp2_with fail
      go_ret
      exact ⟨by rw [HR.out]; rfl, rfl⟩
theorem f68_any (l : List UInt8) (w : World) : Calls Tryd.prog 68 #[strV l] w fun e w' => e = .returned (.bool (isNam l)) ∧ w = w' := f68_s ⟨l.toArray⟩ w
end Go.Proofs.YtcaaadhhaanbcaaDoor
