/- The walks of the small functions that look at bytes, of the token of a number, and of what the whole scan needs. -/
import Derived.Test.YtcaaadhhaanbcaaDoorRows
import Derived.WalkKit
import Derived.WalkSpells
import Derived.WalkLawsBesides
import Derived.Deep.QuietTactic
import Derived.BigQuiet
import Derived.Lib.Hide
import Derived.Test.YtcaaadhhaanbcaaDoorPs
namespace Go.Proofs.YtcaaadhhaanbcaaDoor
open Go.RowKit

theorem ret_int {k : IntKind} {a b : Int} (h : a = b) : Ending.returned (.int k a) = .returned (.int k b) := by rw [h]

def SaysB (f : FuncId) (p : Int → Bool) : Prop := ∀ (b : Int) (w : World), Calls Tryd.prog f #[.int .u8 b] w fun e w' => e = .returned (.bool (p b)) ∧ w = w'

set_option maxHeartbeats 400000 in
theorem f47_any : SaysB 47 letterB := by
  intro b w
  go_enter Tryd.func47, Tryd.ntmps47
  go_wp2
  all_goals go_ret
  all_goals exact ⟨by simp [letterB]; omega, rfl⟩
set_option maxHeartbeats 400000 in
theorem f50_any : SaysB 50 digitB := by
  intro b w
  go_enter Tryd.func50, Tryd.ntmps50
  go_wp2
  all_goals go_ret
  all_goals exact ⟨by simp [digitB]; omega, rfl⟩
set_option maxHeartbeats 400000 in
theorem f49_any : SaysB 49 nameB := by
  intro b w
  cases h1 : letterB b
  · cases h2 : digitB b
    · go_enter Tryd.func49, Tryd.ntmps49
      go_wp2_with (first | (go_at_call 47; refine (f47_any _ _).mono ?_; rintro e w' ⟨rfl, rfl⟩) | (go_at_call 50; refine (f50_any _ _).mono ?_; rintro e w' ⟨rfl, rfl⟩))
      all_goals go_ret
      all_goals exact ⟨by simp [nameB, h1, h2], rfl⟩
    · go_enter Tryd.func49, Tryd.ntmps49
      go_wp2_with (first | (go_at_call 47; refine (f47_any _ _).mono ?_; rintro e w' ⟨rfl, rfl⟩) | (go_at_call 50; refine (f50_any _ _).mono ?_; rintro e w' ⟨rfl, rfl⟩))
      all_goals go_ret
      all_goals exact ⟨by simp [nameB, h1, h2], rfl⟩
  · go_enter Tryd.func49, Tryd.ntmps49
    go_wp2_with (first | (go_at_call 47; refine (f47_any _ _).mono ?_; rintro e w' ⟨rfl, rfl⟩) | (go_at_call 50; refine (f50_any _ _).mono ?_; rintro e w' ⟨rfl, rfl⟩))
    all_goals go_ret
    all_goals exact ⟨by simp [nameB, h1], rfl⟩


def bts (s : ByteArray) : List UInt8 := s.data.toList
theorem bts_len (s : ByteArray) : (bts s).length = s.size := Array.length_toList
theorem drop_cons (s : ByteArray) (k : Nat) (h : k < s.size) : (bts s).drop k = s[k] :: (bts s).drop (k + 1) := by
  exact List.drop_eq_getElem_cons (l := bts s) (by rw [bts_len]; exact h)
theorem run_yes (p : Int → Bool) (s : ByteArray) (k : Nat) (h : k < s.size) (hp : p (s[k].toNat : Int) = true) : runLen p ((bts s).drop k) = runLen p ((bts s).drop (k + 1)) + 1 := by
  rw [drop_cons s k h]; simp only [runLen, hp, if_true]
theorem run_no (p : Int → Bool) (s : ByteArray) (k : Nat) (h : k < s.size) (hp : p (s[k].toNat : Int) = false) : runLen p ((bts s).drop k) = 0 := by
  rw [drop_cons s k h]; simp [runLen, hp]
theorem run_end (p : Int → Bool) (s : ByteArray) (k : Nat) (h : ¬ k < s.size) : runLen p ((bts s).drop k) = 0 := by
  rw [List.drop_eq_nil_of_le (by rw [bts_len]; omega)]; rfl

set_option maxHeartbeats 400000 in
theorem f48_49 (s : ByteArray) (hs : s.size ≤ maxLen) (i : Nat) (hi : i ≤ s.size) (w : World) :
    Calls Tryd.prog 48 #[.string s, .int .i64 i, .func (.func 49) #[] #[]] w fun e w' => e = .returned (.int .i64 ((i + runLen nameB ((bts s).drop i) : Nat) : Int)) ∧ w = w' := by
  unfold maxLen at hs
  go_enter Tryd.func48, Tryd.ntmps48
  go_wp2
  go_loop [1] (fun t => ∃ k : Nat, k ≤ s.size ∧ k + runLen nameB ((bts s).drop k) = i + runLen nameB ((bts s).drop i) ∧ t = .int .i64 k) (fun t => s.size - (intOf t).toNat)
  case atStart => exact ⟨i, hi, rfl, rfl⟩
  case round =>
    obtain ⟨k, hk, he, rfl⟩ := hrel
    have He := Lib.hid he; clear he
    by_cases hlt : k < s.size
    · cases hb : nameB (s[k].toNat : Int)
      · have Hr := Lib.hid (run_no _ s k hlt hb)
        go_wp2_with (go_at_call 49; refine (f49_any _ _).mono ?_; rintro e w' ⟨rfl, rfl⟩)
        go_ret
        exact ⟨ret_int (by have := He.out; have := Hr.out; omega), rfl⟩
      · have Hr := Lib.hid (run_yes _ s k hlt hb)
        go_wp2_with (go_at_call 49; refine (f49_any _ _).mono ?_; rintro e w' ⟨rfl, rfl⟩)
        go_round
        case rel => exact ⟨k + 1, by omega, by have := He.out; have := Hr.out; omega, by go_num⟩
        case measure => simp [intOf]; omega
    · have Hr := Lib.hid (run_end nameB s k hlt)
      go_wp2_with fail
      go_ret
      exact ⟨ret_int (by have := He.out; have := Hr.out; omega), rfl⟩

set_option maxHeartbeats 400000 in
theorem f48_50 (s : ByteArray) (hs : s.size ≤ maxLen) (i : Nat) (hi : i ≤ s.size) (w : World) :
    Calls Tryd.prog 48 #[.string s, .int .i64 i, .func (.func 50) #[] #[]] w fun e w' => e = .returned (.int .i64 ((i + runLen digitB ((bts s).drop i) : Nat) : Int)) ∧ w = w' := by
  unfold maxLen at hs
  go_enter Tryd.func48, Tryd.ntmps48
  go_wp2
  go_loop [1] (fun t => ∃ k : Nat, k ≤ s.size ∧ k + runLen digitB ((bts s).drop k) = i + runLen digitB ((bts s).drop i) ∧ t = .int .i64 k) (fun t => s.size - (intOf t).toNat)
  case atStart => exact ⟨i, hi, rfl, rfl⟩
  case round =>
    obtain ⟨k, hk, he, rfl⟩ := hrel
    have He := Lib.hid he; clear he
    by_cases hlt : k < s.size
    · cases hb : digitB (s[k].toNat : Int)
      · have Hr := Lib.hid (run_no _ s k hlt hb)
        go_wp2_with (go_at_call 50; refine (f50_any _ _).mono ?_; rintro e w' ⟨rfl, rfl⟩)
        go_ret
        exact ⟨ret_int (by have := He.out; have := Hr.out; omega), rfl⟩
      · have Hr := Lib.hid (run_yes _ s k hlt hb)
        go_wp2_with (go_at_call 50; refine (f50_any _ _).mono ?_; rintro e w' ⟨rfl, rfl⟩)
        go_round
        case rel => exact ⟨k + 1, by omega, by have := He.out; have := Hr.out; omega, by go_num⟩
        case measure => simp [intOf]; omega
    · have Hr := Lib.hid (run_end digitB s k hlt)
      go_wp2_with fail
      go_ret
      exact ⟨ret_int (by have := He.out; have := Hr.out; omega), rfl⟩

end Go.Proofs.YtcaaadhhaanbcaaDoor
