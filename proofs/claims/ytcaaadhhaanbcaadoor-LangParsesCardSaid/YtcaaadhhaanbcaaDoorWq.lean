/- The walks of Check's parts: names, numbers, nodes, forms, measures. -/
import Derived.Test.YtcaaadhhaanbcaaDoorSz
namespace Go.Proofs.YtcaaadhhaanbcaaDoor
open Go.RowKit

def isNum (z : Int) : Bool := decide (0 ≤ z) && decide (z ≤ 9999999)
def isNam (l : List UInt8) : Bool :=
  match l with
  | [] => false
  | c :: _ => decide (l.length ≤ 16) && letterB c.toNat && (runLen nameB l == l.length)

set_option maxHeartbeats 400000 in
theorem f71_any (z : Int) (w : World) : Calls Tryd.prog 71 #[.int .i64 z] w fun e w' => e = .returned (.bool (isNum z)) ∧ w = w' := by
  go_enter Tryd.func71, Tryd.ntmps71
  go_wp2
  all_goals go_ret
  all_goals exact ⟨by simp [isNum]; try omega, rfl⟩

theorem bts_mk (l : List UInt8) : bts ⟨l.toArray⟩ = l := rfl

theorem natBeq (n m : Nat) : ((n : Int) == (m : Int) + 1) = (n == m + 1) := by
  rw [Bool.eq_iff_iff]; simp; omega
theorem size_mk (l : List UInt8) : (⟨l.toArray⟩ : ByteArray).size = l.length := by simp [ByteArray.size]

set_option maxHeartbeats 1000000 in
theorem f72_any (l : List UInt8) (w : World) : Calls Tryd.prog 72 #[strV l] w fun e w' => e = .returned (.bool (isNam l)) ∧ w = w' := by
  cases l with
  | nil =>
    go_enter Tryd.func72, Tryd.ntmps72
    go_wp2_with fail
    go_ret
    exact ⟨rfl, rfl⟩
  | cons c r =>
    by_cases h16 : (c :: r).length ≤ 16
    · have h16i : (r.length : Int) + 1 ≤ 16 := by simp at h16; omega
      have h0 : 0 < (⟨(c :: r).toArray⟩ : ByteArray).size := by rw [size_mk]; simp
      have hL : ∃ v, letterB (c.toNat : Int) = v ∧ letterB (((⟨(c :: r).toArray⟩ : ByteArray)[0]).toNat : Int) = v := ⟨_, rfl, rfl⟩
      obtain ⟨v, hv, hL⟩ := hL
      have Hv := Lib.hid hv; clear hv
      cases v with
      | false =>
        have HR : Hid (isNam (c :: r) = false) := Lib.hid (by simp [isNam, Hv.out])
        go_enter Tryd.func72, Tryd.ntmps72
        go_wp2_with (go_at_call 47; refine (f47_any _ _).mono ?_; rintro e w' ⟨rfl, rfl⟩; simp only [hL])
        go_ret
        exact ⟨by rw [HR.out]; rfl, rfl⟩
      | true =>
        have h48 := f48_49 ⟨(c :: r).toArray⟩ (by rw [size_mk]; unfold maxLen; omega) 0 (by omega) w
        have H48 : Hid (Calls Tryd.prog 48 #[.string ⟨(c :: r).toArray⟩, .int .i64 0, .func (.func 49) #[] #[]] w fun e w' => e = .returned (.int .i64 (runLen nameB (c :: r) : Nat)) ∧ w = w') := Lib.hid (by
          rw [List.drop_zero, bts_mk, Nat.zero_add] at h48; exact h48)
        clear h48
        have HR : Hid (isNam (c :: r) = (runLen nameB (c :: r) == (c :: r).length)) := Lib.hid (by simp [isNam, Hv.out]; intro _; simpa using h16)
        generalize hn : runLen nameB (c :: r) = n at *
        by_cases he : (n : Int) = ((r.length : Int) + 1)
        · go_enter Tryd.func72, Tryd.ntmps72
          go_wp2_with (first | (go_at_call 47; refine (f47_any _ _).mono ?_; rintro e w' ⟨rfl, rfl⟩; simp only [hL]) | (go_at_call 48; refine H48.out.mono ?_; rintro e w' ⟨rfl, rfl⟩))
          go_ret
          exact ⟨by rw [HR.out]; simp [List.length_cons]; omega, rfl⟩
        · have he' : ¬ n = r.length + 1 := by omega
          go_enter Tryd.func72, Tryd.ntmps72
          go_wp2_with (first | (go_at_call 47; refine (f47_any _ _).mono ?_; rintro e w' ⟨rfl, rfl⟩; simp only [hL]) | (go_at_call 48; refine H48.out.mono ?_; rintro e w' ⟨rfl, rfl⟩))
          go_ret
          exact ⟨by rw [HR.out]; simp only [List.length_cons]; rw [← natBeq]; rfl, rfl⟩
    · have h16i : 16 < (r.length : Int) + 1 := by simp at h16; omega
      have HR : Hid (isNam (c :: r) = false) := Lib.hid (by simp [isNam]; intro h; simp at h16; omega)
      go_enter Tryd.func72, Tryd.ntmps72
      go_wp2_with fail
      go_ret
      exact ⟨by rw [HR.out]; rfl, rfl⟩

def nodeB (x : Ex) : Bool :=
  x.list.all isNum &&
  (if x.kind = 1 then isNum x.n && x.name.isEmpty && x.list.isEmpty && x.args.isEmpty
  else if x.kind = 2 then x.n == 0 && x.name.isEmpty && x.args.isEmpty
  else if x.kind = 3 then x.n == 0 && isNam x.name && x.list.isEmpty
  else if x.kind = 4 then x.n == 0 && isNam x.name && x.list.isEmpty && x.args.isEmpty
  else false)

theorem lenBeq {α : Type} (l : List α) : ((l.length : Int) == 0) = l.isEmpty := by cases l <;> simp <;> omega
theorem RInts_get {G : Nat → Prop} {w : World} {a : Option Addr} {len cap : Nat} {zs : List Int} (h : RInts G w (.slice a len cap) zs) (i : Nat) (hi : i < zs.length) :
    ∃ b o, a = some ⟨b, o, none⟩ ∧ G b ∧ w.cell? ⟨b, o + i, none⟩ = some (.int .i64 zs[i]) := by
  obtain ⟨a', cap', hv, _, _, hc⟩ := h
  obtain ⟨rfl, rfl, rfl⟩ := Value.slice.inj hv
  obtain ⟨b, o, rfl, hg, h⟩ := hc (by intro e; rw [e] at hi; simp at hi)
  exact ⟨b, o, rfl, hg, h i _ (List.getElem?_eq_getElem hi)⟩

set_option maxRecDepth 100000 in
set_option maxHeartbeats 4000000 in
theorem f61_any (x : Ex) (cs : Array Value) (w : World) (hx : XV (Lt w.heap.size) w x cs) :
    Calls Tryd.prog 61 #[.agg cs] w fun e w' => e = .returned (.bool (nodeB x)) ∧ Below w.heap.size w w' := by
  have hnot : ∀ (x : Bool) (w : World), (Op.unary .not (.bool x)).run Tryd.prog w = .ok (.bool (!x)) w := fun _ _ => rfl
  obtain ⟨la, lc, aa, ac, rfl, hl, _, hlc, hlc2, hac, hac2⟩ := XV_five hx
  clear hx
  have hb : Below w.heap.size w (w.alloc (.cells #[.int .i64 x.kind, strV x.name, .int .i64 x.n, .slice la x.list.length lc, .slice aa x.args.length ac] 26)) := (Below.refl _ _).alloc (Nat.le_refl _) _
  have HL := Lib.hid (RInts_later hl hb (Nat.le_refl _)); clear hl
  have HB := Lib.hid (fun o => (Below.refl w.heap.size w).alloc (Nat.le_refl _) o); clear hb
  go_enter Tryd.func61, Tryd.ntmps61
  go_wp2_with fail
  go_loop [8] (fun t => ∃ k : Nat, k ≤ x.list.length ∧ t = .int .i64 k ∧ (x.list.take k).all isNum = true) (fun t => x.list.length - (intOf t).toNat)
  case atStart => exact ⟨0, by omega, rfl, by simp⟩
  case round =>
    obtain ⟨k, hk, rfl, hall⟩ := hrel
    have Hall := Lib.hid hall; clear hall
    by_cases hlt : k < x.list.length
    · obtain ⟨b, o, rfl, _, hc⟩ := RInts_get HL.out k hlt
      have HT : Hid ((x.list.take (k + 1)).all isNum = isNum x.list[k]) := Lib.hid (by
        rw [List.take_succ_eq_append_getElem hlt, List.all_append, Hall.out]; simp)
      cases hz : isNum x.list[k]
      · go_wp2_with (go_at_call 71; refine (f71_any _ _).mono ?_; rintro e w' ⟨rfl, rfl⟩; simp only [hz])
        go_ret
        refine ⟨?_, HB.out _⟩
        have : x.list.all isNum = false := by
          rw [Bool.eq_false_iff]; intro h
          rw [List.all_eq_true] at h
          exact absurd (h _ (List.getElem_mem hlt)) (by rw [hz]; decide)
        simp [nodeB, this]
      · go_wp2_with (go_at_call 71; refine (f71_any _ _).mono ?_; rintro e w' ⟨rfl, rfl⟩; simp only [hz])
        go_round
        case rel => exact ⟨k + 1, by omega, by go_num, by rw [HT.out, hz]⟩
        case measure => simp [intOf]; omega
    · have HA : Hid (x.list.all isNum = true) := Lib.hid (by have := Hall.out; rwa [List.take_of_length_le (by omega)] at this)
      by_cases k1 : x.kind = 1
      · as_aux_lemma =>
          go_wp2_with (first | (go_at_call 71; refine (f71_any _ _).mono ?_; rintro e w' ⟨rfl, rfl⟩) | (go_at_call 72; refine (f72_any _ _).mono ?_; rintro e w' ⟨rfl, rfl⟩))
          all_goals
            go_ret
            refine ⟨?_, HB.out _⟩
            simp only [nodeB, HA.out, Bool.true_and, k1, if_true]
            simp [*, lenBeq]
            try rfl
      · by_cases k2 : x.kind = 2
        · as_aux_lemma =>
            go_wp2_with (first | (go_at_call 71; refine (f71_any _ _).mono ?_; rintro e w' ⟨rfl, rfl⟩) | (go_at_call 72; refine (f72_any _ _).mono ?_; rintro e w' ⟨rfl, rfl⟩))
            all_goals
              go_ret
              refine ⟨?_, HB.out _⟩
              simp only [nodeB, HA.out, Bool.true_and, k2, if_true, if_neg (show ¬ (2 : Int) = 1 by decide)]
              simp [*, lenBeq]
              try rfl
        · by_cases k3 : x.kind = 3
          · as_aux_lemma =>
              go_wp2_with (first | (go_at_call 71; refine (f71_any _ _).mono ?_; rintro e w' ⟨rfl, rfl⟩) | (go_at_call 72; refine (f72_any _ _).mono ?_; rintro e w' ⟨rfl, rfl⟩))
              all_goals
                go_ret
                refine ⟨?_, HB.out _⟩
                simp only [nodeB, HA.out, Bool.true_and, k3, if_true, if_neg (show ¬ (3 : Int) = 1 by decide), if_neg (show ¬ (3 : Int) = 2 by decide)]
                simp [*, lenBeq]
                try rfl
          · by_cases k4 : x.kind = 4
            · as_aux_lemma =>
                go_wp2_with (first | (go_at_call 71; refine (f71_any _ _).mono ?_; rintro e w' ⟨rfl, rfl⟩) | (go_at_call 72; refine (f72_any _ _).mono ?_; rintro e w' ⟨rfl, rfl⟩))
                all_goals
                  go_ret
                  refine ⟨?_, HB.out _⟩
                  simp only [nodeB, HA.out, Bool.true_and, k4, if_true, if_neg (show ¬ (4 : Int) = 1 by decide), if_neg (show ¬ (4 : Int) = 2 by decide), if_neg (show ¬ (4 : Int) = 3 by decide)]
                  simp [*, lenBeq]
                  try rfl
            · as_aux_lemma =>
                go_wp2_with (first | (go_at_call 71; refine (f71_any _ _).mono ?_; rintro e w' ⟨rfl, rfl⟩) | (go_at_call 72; refine (f72_any _ _).mono ?_; rintro e w' ⟨rfl, rfl⟩))
                all_goals
                  go_ret
                  refine ⟨?_, HB.out _⟩
                  simp only [nodeB, HA.out, Bool.true_and, k1, k2, k3, k4, if_false]
                  simp [*]
                  try rfl
end Go.Proofs.YtcaaadhhaanbcaaDoor
