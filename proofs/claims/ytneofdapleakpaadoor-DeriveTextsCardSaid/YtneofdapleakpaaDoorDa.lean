/- What the walks of DeriveTexts share: strings, the builder's state, the reference's number and name. -/
import Derived.Test.YtneofdapleakpaaDoorBld
import Derived.Deep.RegionHeld3
import Derived.Lib.AppendIntMem
import Derived.Lib.ItoaLen
import Derived.Lib.Hide
import Derived.WalkSpells
import Derived.WalkLawsBesides
import Derived.Deep.QuietTactic
import Derived.BigQuiet
namespace Go.Proofs.YtneofdapleakpaaDoor
open Go.RowKit

abbrev strV (l : List UInt8) : Value := .string ⟨l.toArray⟩
theorem bapp (a b : List UInt8) : (⟨a.toArray⟩ : ByteArray) ++ ⟨b.toArray⟩ = ⟨(a ++ b).toArray⟩ := by
  apply ByteArray.ext
  rw [ByteArray.data_append]
  simp

theorem builder_below {B b : Nat} {bs : List Value} {w w' : World} (h : Lib.IsBuilderF 42 5 B b bs w) (hb : Below w.heap.size w w') : Lib.IsBuilderF 42 5 B b bs w' := by
  have one : ∀ p, Lib.BuilderAtF 42 5 B b p bs w → Lib.BuilderAtF 42 5 B b p bs w' := by
    rintro p ⟨hB, v, hbk, hown, hne⟩
    have hlt : b < w.heap.size := (Array.getElem?_eq_some_iff.1 hbk).1
    refine ⟨hB, v, by rw [hb.block b hlt]; exact hbk, ?_, hne⟩
    refine hown.kept (row := none) ⟨hb.os, hb.tape, hb.output, hb.size, fun k hk _ => hb.block k hk⟩ ?_
    cases v.ownBlock with
    | none => exact .inl rfl
    | some g => exact .inr (by simp)
  exact h.elim (fun x => .inl (one _ x)) (fun x => .inr (one _ x))

theorem kept_below {b : Option Nat} {w w' : World} (hb : Below w.heap.size w w') : Lib.OthersKept 5 b w w' := fun k o hk _ _ => by
  rw [hb.block k (Array.getElem?_eq_some_iff.1 hk).1]; exact hk

/-- In w block b is a builder with the bytes acc; of w0 no more than it and its row has turned. -/
structure BS (B b : Nat) (w0 w : World) (acc : List UInt8) : Prop where
  bld : Lib.IsBuilderF 42 5 B b (Lib.byteCells acc) w
  below : Below B w0 w
  kept : Lib.OthersKept 5 (some b) w0 w
  base : B ≤ w0.heap.size

theorem BS.bw {B b : Nat} {w0 w : World} {acc : List UInt8} (h : BS B b w0 w acc) : B ≤ w.heap.size := Nat.le_trans h.base h.below.size
theorem BS.refl {B b : Nat} {w0 w : World} {acc : List UInt8} (h : BS B b w0 w acc) : BS B b w w acc := ⟨h.bld, Below.refl _ _, Lib.OthersKept.refl _ _ _, h.bw⟩
theorem BS.trans {B b : Nat} {w0 w1 w2 : World} {a1 a2 : List UInt8} (h : BS B b w0 w1 a1) (k : BS B b w1 w2 a2) : BS B b w0 w2 a2 := ⟨k.bld, h.below.trans k.below, h.kept.trans k.kept, h.base⟩
theorem BS.later {B b : Nat} {w0 w w' : World} {acc : List UInt8} (h : BS B b w0 w acc) (hb : Below w.heap.size w w') : BS B b w0 w' acc :=
  ⟨builder_below h.bld hb, h.below.trans (hb.mono h.bw), h.kept.trans (kept_below hb), h.base⟩
theorem BS.heap {B b : Nat} {w0 w : World} {acc : List UInt8} (h : BS B b w0 w acc) {k : Nat} {cs : Array Value} {e : TypeId} {fr : Nat × Nat} (hk : w0.heap[k]? = some (.cells cs e fr)) (hne : k ≠ b) (he : e ≠ 5) : w.heap[k]? = some (.cells cs e fr) :=
  h.kept k _ hk (fun e => hne (Option.some.inj e)) (fun c fz e1 => by cases e1; exact he rfl)

theorem bs_str {B b : Nat} {w0 w : World} {acc : List UInt8} (l : List UInt8) (h : BS B b w0 w acc) (hl : acc.length + l.length ≤ 140737488355328) :
    Calls Tryd.prog 6 #[.pointer (some ⟨b, 0, none⟩), .string ⟨l.toArray⟩] w fun e w' => e = .returned (.tuple #[.int .i64 l.length, .nilIface]) ∧ BS B b w0 w' (acc ++ l) := by
  refine (writeString_k B b _ _ w h.bld (by rw [Lib.byteCells_length]; exact hl) h.bw).mono ?_
  rintro e w' ⟨rfl, h1, h2, h3⟩
  exact ⟨rfl, by rw [Lib.byteCells_append]; exact h1, h.below.trans h2, h.kept.trans h3, h.base⟩

/-- The table of powers stands in whatever is below B as w0. -/
abbrev Tab (B : Nat) (w0 : World) : Prop := Lib.TabBelow Tryd.prog B w0 "internal/strconv.uint64pow10" .u64 Lib.pow10Tab

theorem bs_itoa {B b : Nat} {w0 w : World} {acc : List UInt8} (n : Int) (h0 : -9223372036854775808 ≤ n) (h1 : n ≤ 9223372036854775807) (ht : Tab B w0) (h : BS B b w0 w acc) :
    Calls Tryd.prog 7 #[.int .i64 n] w fun e w' => e = .returned (strV (Lib.itoa n)) ∧ BS B b w0 w' acc ∧ Below w.heap.size w w' := by
  refine (Tryd.strconv_Itoa n h0 h1 w (ht w h.below)).mono ?_
  rintro e w' ⟨rfl, k, os, rfl⟩
  have hb : Below w.heap.size w (Sort.grow (w.drewN k) os) := Lib.below_grow _ _ (Nat.le_refl _) _ _
  exact ⟨rfl, h.later hb, hb⟩


theorem enc_digit_fin : ∀ i : Fin 10, Utf8.encode (48 + (i.val : Int)) = ⟨#[UInt8.ofNat (48 + i.val)]⟩ := by decide +kernel
theorem enc_digit (d : Nat) (h : d < 10) : Utf8.encode (48 + (d : Int)) = ⟨[UInt8.ofNat (48 + d)].toArray⟩ := enc_digit_fin ⟨d, h⟩
theorem dec_small {u : Nat} (h : u < 10) : Lib.decDigits u = [UInt8.ofNat (48 + u)] := by rw [Lib.decDigits, dif_pos h]
theorem dec_big {u : Nat} (h : ¬ u < 10) : Lib.decDigits u = Lib.decDigits (u / 10) ++ [UInt8.ofNat (48 + u % 10)] := by rw [Lib.decDigits, dif_neg h]
theorem dec_len {u : Nat} (h : u ≤ 9223372036854775808) : (Lib.decDigits u).length ≤ 21 := by
  rcases Nat.eq_zero_or_pos u with h0 | h0
  · subst h0; rw [dec_small (by omega)]; simp
  · have := Lib.itoa_length_le (-(u : Int)) (by omega) (by omega)
    rw [Lib.itoa_neg u h0] at this
    simp only [List.length_cons] at this; omega

theorem encI (d : Int) (h0 : 0 ≤ d) (h : d < 10) : Utf8.encode (48 + d) = ⟨[UInt8.ofNat (48 + d.toNat)].toArray⟩ := by
  obtain ⟨k, rfl⟩ : ∃ k : Nat, d = k := ⟨d.toNat, by omega⟩
  exact enc_digit k (by omega)
theorem itoa_small {n : Int} (h0 : 0 ≤ n) (h : n < 10) : Lib.itoa n = [UInt8.ofNat (48 + n.toNat)] := by
  unfold Lib.itoa; rw [if_neg (by omega), dec_small (by omega)]
theorem itoa_big {n : Int} (h : 10 ≤ n) : Lib.itoa n = Lib.itoa (n / 10) ++ [UInt8.ofNat (48 + (n % 10).toNat)] := by
  unfold Lib.itoa; rw [if_neg (by omega), if_neg (by omega), dec_big (by omega), show (n / 10).toNat = n.toNat / 10 by omega, show (n % 10).toNat = n.toNat % 10 by omega]
theorem itoa_nsmall {m : Int} (h0 : 1 ≤ m) (h : m < 10) : Lib.itoa (-m) = [45] ++ [UInt8.ofNat (48 + m.toNat)] := by
  unfold Lib.itoa; rw [if_pos (by omega), show (-m).natAbs = m.toNat by omega, dec_small (by omega)]; rfl
theorem itoa_nbig {m : Int} (h : 10 ≤ m) : Lib.itoa (-m) = Lib.itoa (-(m / 10)) ++ [UInt8.ofNat (48 + (m % 10).toNat)] := by
  unfold Lib.itoa; rw [if_pos (by omega), if_pos (by omega), show (-m).natAbs = m.toNat by omega, show (-(m / 10)).natAbs = m.toNat / 10 by omega, dec_big (by omega), show (m % 10).toNat = m.toNat % 10 by omega]; rfl

def NumP (k : Nat) : Prop := ∀ (n : Int) (w : World), 0 ≤ n → n ≤ k → n ≤ 9223372036854775807 → Calls Tryd.prog 9 #[.int .i64 n] w fun e w' => e = .returned (strV (Lib.itoa n)) ∧ w = w'
set_option maxRecDepth 100000 in
set_option maxHeartbeats 1000000 in
theorem num_small (n : Int) (w : World) (h0 : 0 ≤ n) (h10 : n < 10) : Calls Tryd.prog 9 #[.int .i64 n] w fun e w' => e = .returned (strV (Lib.itoa n)) ∧ w = w' := by
  have HE := Lib.hid (encI n h0 h10)
  have HD := Lib.hid (itoa_small h0 h10)
  go_enter Tryd.func9, Tryd.ntmps9
  go_wp2_with fail
  go_ret
  exact ⟨by rw [HD.out]; exact congrArg (fun x => Ending.returned (Value.string x)) HE.out, rfl⟩
set_option maxRecDepth 100000 in
set_option maxHeartbeats 1000000 in
theorem num_any : ∀ k, NumP k
  | 0 => fun n w h0 hk _ => num_small n w h0 (by omega)
  | k + 1 => fun n w h0 hk hb => by
    have ih := num_any k
    by_cases h10 : n < 10
    · exact num_small n w h0 h10
    · have h10' : 10 ≤ n := by omega
      have HE := Lib.hid (encI (n % 10) (by omega) (by omega))
      have HD := Lib.hid (itoa_big h10')
      have hln := Lib.itoa_length_le (n / 10) (by omega) (by omega)
      have H := Lib.hid (ih (n / 10) w (by omega) (by omega) (by omega))
      have hsz : (Utf8.encode (48 + n % 10)).size = 1 := by rw [HE.out]; rfl
      clear ih h10
      go_enter Tryd.func9, Tryd.ntmps9
      go_wp2_with fail
      refine H.out.mono ?_
      rintro e w' ⟨rfl, rfl⟩
      go_wp2_with fail
      go_ret
      refine ⟨?_, rfl⟩
      have e := bapp (Lib.itoa (n / 10)) [UInt8.ofNat (48 + (n % 10).toNat)]
      rw [← HE.out] at e
      rw [HD.out]
      exact congrArg (fun x => Ending.returned (Value.string x)) e
def NumN (k : Nat) : Prop := ∀ (m : Int) (w : World), 1 ≤ m → m ≤ k → m ≤ 9223372036854775808 → Calls Tryd.prog 9 #[.int .i64 (-m)] w fun e w' => e = .returned (strV (Lib.itoa (-m))) ∧ w = w'
set_option maxRecDepth 100000 in
set_option maxHeartbeats 1000000 in
theorem numn_any : ∀ k, NumN k
  | 0 => fun m w h0 hk _ => by omega
  | k + 1 => fun m w h0 hk hb => by
    have ih := numn_any k
    have hT : m.tdiv 10 = m / 10 := Int.tdiv_eq_ediv_of_nonneg (by omega)
    have hM : m.tmod 10 = m % 10 := Int.tmod_eq_emod_of_nonneg (by omega)
    by_cases h10 : m < 10
    · have HE := Lib.hid (encI m (by omega) h10)
      have HD := Lib.hid (itoa_nsmall h0 h10)
      have hq0 : m / 10 = 0 := by omega
      have hsz : (Utf8.encode (48 + m)).size = 1 := by rw [HE.out]; rfl
      rw [hq0] at hT
      clear ih
      go_enter Tryd.func9, Tryd.ntmps9
      go_wp2_with fail
      go_ret
      refine ⟨?_, rfl⟩
      have e := bapp [45] [UInt8.ofNat (48 + m.toNat)]
      rw [← HE.out] at e
      rw [HD.out]
      exact congrArg (fun x => Ending.returned (Value.string x)) e
    · have h10' : 10 ≤ m := by omega
      have HE := Lib.hid (encI (m % 10) (by omega) (by omega))
      have HD := Lib.hid (itoa_nbig h10')
      have hln := Lib.itoa_length_le (-(m / 10)) (by omega) (by omega)
      have H := Lib.hid (ih (m / 10) w (by omega) (by omega) (by omega))
      have hsz : (Utf8.encode (48 + m % 10)).size = 1 := by rw [HE.out]; rfl
      have hq0 : ¬ m / 10 = 0 := by omega
      have hq1 : 1 ≤ m / 10 := by omega
      clear ih h10
      go_enter Tryd.func9, Tryd.ntmps9
      go_wp2_with fail
      refine H.out.mono ?_
      rintro e w' ⟨rfl, rfl⟩
      go_wp2_with fail
      go_ret
      refine ⟨?_, rfl⟩
      have e := bapp (Lib.itoa (-(m / 10))) [UInt8.ofNat (48 + (m % 10).toNat)]
      rw [← HE.out] at e
      rw [HD.out]
      exact congrArg (fun x => Ending.returned (Value.string x)) e
/-- The reference's number is strconv's. -/
theorem f9_any (n : Int) (h0 : -9223372036854775808 ≤ n) (h1 : n ≤ 9223372036854775807) (w : World) : Calls Tryd.prog 9 #[.int .i64 n] w fun e w' => e = .returned (strV (Lib.itoa n)) ∧ w = w' := by
  by_cases h : n < 0
  · have := numn_any n.natAbs (-n) w (by omega) (by omega) (by omega)
    rw [Int.neg_neg] at this; exact this
  · exact num_any n.natAbs n w (by omega) (by omega) h1

def namesL : List (List UInt8) := [[116, 114, 105, 118, 105, 97, 108], [99, 111, 108, 117, 109, 110, 115], [122, 101, 114, 111, 115], [118, 97, 110, 100, 101, 114, 109, 111, 110, 100, 101], [112, 117, 110, 99, 116, 117, 114, 101], [115, 104, 111, 114, 116, 101, 110], [115, 117, 98, 99, 111, 100, 101], [101, 120, 116, 101, 110, 100], [115, 117, 109], [112, 108, 111, 116, 107, 105, 110], [112, 114, 111, 100, 117, 99, 116], [99, 111, 110, 99, 97, 116, 101, 110, 97, 116, 101], [115, 117, 98, 102, 105, 101, 108, 100], [109, 97, 112], [100, 105, 118, 105, 115, 105, 98, 108, 101], [100, 105, 115, 116, 114, 105, 98, 117, 116, 105, 111, 110], [116, 114, 97, 110, 115, 102, 111, 114, 109], [101, 120, 99, 108, 117, 115, 105, 111, 110], [105, 110, 116, 101, 114, 108, 101, 97, 118, 101], [99, 111, 110, 115, 116, 114, 117, 99, 116, 105, 111, 110]]
/-- The name of a rule. -/
def nameL (r : Int) : List UInt8 := if 0 ≤ r ∧ r < 20 then namesL[r.toNat]?.getD [] else [63]
abbrev namesO : Obj := .cells #[.string ⟨#[116, 114, 105, 118, 105, 97, 108]⟩, .string ⟨#[99, 111, 108, 117, 109, 110, 115]⟩, .string ⟨#[122, 101, 114, 111, 115]⟩, .string ⟨#[118, 97, 110, 100, 101, 114, 109, 111, 110, 100, 101]⟩, .string ⟨#[112, 117, 110, 99, 116, 117, 114, 101]⟩, .string ⟨#[115, 104, 111, 114, 116, 101, 110]⟩, .string ⟨#[115, 117, 98, 99, 111, 100, 101]⟩, .string ⟨#[101, 120, 116, 101, 110, 100]⟩, .string ⟨#[115, 117, 109]⟩, .string ⟨#[112, 108, 111, 116, 107, 105, 110]⟩, .string ⟨#[112, 114, 111, 100, 117, 99, 116]⟩, .string ⟨#[99, 111, 110, 99, 97, 116, 101, 110, 97, 116, 101]⟩, .string ⟨#[115, 117, 98, 102, 105, 101, 108, 100]⟩, .string ⟨#[109, 97, 112]⟩, .string ⟨#[100, 105, 118, 105, 115, 105, 98, 108, 101]⟩, .string ⟨#[100, 105, 115, 116, 114, 105, 98, 117, 116, 105, 111, 110]⟩, .string ⟨#[116, 114, 97, 110, 115, 102, 111, 114, 109]⟩, .string ⟨#[101, 120, 99, 108, 117, 115, 105, 111, 110]⟩, .string ⟨#[105, 110, 116, 101, 114, 108, 101, 97, 118, 101]⟩, .string ⟨#[99, 111, 110, 115, 116, 114, 117, 99, 116, 105, 111, 110]⟩] 9
theorem nameL_len (r : Int) : (nameL r).length ≤ 20 := by
  unfold nameL
  split
  · rename_i h
    have : ∀ k : Fin 20, (namesL[k.val]?.getD []).length ≤ 20 := by decide
    exact this ⟨r.toNat, by omega⟩
  · decide
theorem names_cell (w : World) (k : Nat) (h : k < 20) : (w.alloc namesO).cell? ⟨w.heap.size, k, none⟩ = some (strV (nameL k)) := by
  rw [Lib.cell_of_heap (heap_alloc_new w _)]
  match k, h with
  | 0, _ => rfl
  | 1, _ => rfl
  | 2, _ => rfl
  | 3, _ => rfl
  | 4, _ => rfl
  | 5, _ => rfl
  | 6, _ => rfl
  | 7, _ => rfl
  | 8, _ => rfl
  | 9, _ => rfl
  | 10, _ => rfl
  | 11, _ => rfl
  | 12, _ => rfl
  | 13, _ => rfl
  | 14, _ => rfl
  | 15, _ => rfl
  | 16, _ => rfl
  | 17, _ => rfl
  | 18, _ => rfl
  | 19, _ => rfl
  | k + 20, h => exact absurd h (by omega)

set_option maxRecDepth 100000 in
set_option maxHeartbeats 1000000 in
theorem f10_any (r : Int) (w : World) : Calls Tryd.prog 10 #[.int .i64 r] w fun e w' => e = .returned (strV (nameL r)) ∧ Below w.heap.size w w' := by
  have HB := Lib.hid (fun O => (Below.refl w.heap.size w).alloc (Nat.le_refl _) O)
  by_cases hlo : r < 0
  · have HN : Hid (nameL r = [63]) := Lib.hid (by unfold nameL; rw [if_neg (by omega)])
    go_enter Tryd.func10, Tryd.ntmps10
    go_wp2_with fail
    go_ret
    exact ⟨by rw [HN.out]; rfl, HB.out _⟩
  · by_cases hhi : 20 ≤ r
    · have HN : Hid (nameL r = [63]) := Lib.hid (by unfold nameL; rw [if_neg (by omega)])
      go_enter Tryd.func10, Tryd.ntmps10
      go_wp2_with fail
      go_ret
      exact ⟨by rw [HN.out]; rfl, HB.out _⟩
    · obtain ⟨k, rfl⟩ : ∃ k : Nat, r = k := ⟨r.toNat, by omega⟩
      have hk : k < 20 := by omega
      have hc := names_cell w k hk
      generalize nameL (k : Int) = nm at *
      have HO := Lib.hid (HB.out namesO)
      go_enter Tryd.func10, Tryd.ntmps10
      go_wp2_with fail
      go_ret
      exact ⟨rfl, HO.out⟩
end Go.Proofs.YtneofdapleakpaaDoor
