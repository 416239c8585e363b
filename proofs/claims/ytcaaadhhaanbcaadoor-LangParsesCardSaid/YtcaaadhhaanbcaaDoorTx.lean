/- What the language writes of an expression, plain: with the early stop, and without. -/
import Derived.Test.YtcaaadhhaanbcaaDoorSz
namespace Go.Proofs.YtcaaadhhaanbcaaDoor
open Go.RowKit

abbrev sepB : List UInt8 := [44, 32]

/-- The k-th step's bytes behind those before, with a separator between. -/
def joinN (S : Nat → List UInt8 → List UInt8) : Nat → List UInt8 → List UInt8
  | 0, acc => acc
  | i + 1, acc => S i (if 0 < i then joinN S i acc ++ sepB else joinN S i acc)

theorem joinN_congr {S T : Nat → List UInt8 → List UInt8} {n : Nat} (h : ∀ i < n, ∀ a, S i a = T i a) (acc : List UInt8) : joinN S n acc = joinN T n acc := by
  induction n with
  | zero => rfl
  | succ n ih => simp only [joinN]; rw [h n (by omega), ih (fun i hi => h i (by omega))]

def intStep (zs : List Int) (i : Nat) (a : List UInt8) : List UInt8 :=
  match zs[i]? with
  | some z => a ++ Lib.itoa z
  | none => a

mutual
/-- What write makes of the bytes so far. -/
def wr : Ex → List UInt8 → List UInt8
  | .mk k nm n zs ag, acc =>
    if 65536 < acc.length then acc
    else if k = 1 then acc ++ Lib.itoa n
    else if k = 2 then joinN (intStep zs) zs.length (acc ++ [91]) ++ [93]
    else if k = 4 then acc ++ nm
    else if k = 3 then wrL ag 0 (acc ++ nm ++ [40]) ++ [41]
    else acc
def wrL : List Ex → Nat → List UInt8 → List UInt8
  | [], _, acc => acc
  | x :: xs, i, acc => wrL xs (i + 1) (wr x (if 0 < i then acc ++ sepB else acc))
end

def argStep (ag : List Ex) (i : Nat) (a : List UInt8) : List UInt8 :=
  match ag[i]? with
  | some x => wr x a
  | none => a

theorem wrL_join (ag : List Ex) (acc : List UInt8) (i : Nat) (h : i ≤ ag.length) : wrL (ag.drop i) i (joinN (argStep ag) i acc) = wrL ag 0 acc := by
  induction i with
  | zero => simp [joinN]
  | succ i ih =>
    rw [← ih (by omega), List.drop_eq_getElem_cons (show i < ag.length by omega)]
    simp only [wrL, joinN, argStep, List.getElem?_eq_getElem (show i < ag.length by omega)]
theorem wrL_eq (ag : List Ex) (acc : List UInt8) : wrL ag 0 acc = joinN (argStep ag) ag.length acc := by
  rw [← wrL_join ag acc ag.length (Nat.le_refl _), List.drop_length]; simp [wrL]

mutual
/-- The text, without a stop. -/
def wtx : Ex → List UInt8
  | .mk k nm n zs ag =>
    if k = 1 then Lib.itoa n
    else if k = 2 then joinN (intStep zs) zs.length [91] ++ [93]
    else if k = 4 then nm
    else if k = 3 then nm ++ [40] ++ wtxL ag 0 ++ [41]
    else []
def wtxL : List Ex → Nat → List UInt8
  | [], _ => []
  | x :: xs, i => (if 0 < i then sepB else []) ++ wtx x ++ wtxL xs (i + 1)
end

theorem joinInts_app (zs : List Int) (n : Nat) (acc : List UInt8) : joinN (intStep zs) n acc = acc ++ joinN (intStep zs) n [] := by
  induction n with
  | zero => simp [joinN]
  | succ n ih =>
    simp only [joinN]
    unfold intStep at *
    cases zs[n]? with
    | none => simp only []; split <;> rw [ih] <;> simp
    | some z => simp only []; split <;> rw [ih] <;> simp

mutual
theorem wr_short : ∀ (x : Ex) (acc : List UInt8), acc.length + (wtx x).length ≤ 65536 → wr x acc = acc ++ wtx x
  | .mk k nm n zs ag, acc, h => by
    simp only [wr, wtx] at *
    rw [if_neg (by omega)]
    split
    · rfl
    · rename_i h1
      rw [if_neg h1] at h
      split
      · rw [joinInts_app, joinInts_app zs _ [91]]; simp
      · rename_i h2
        rw [if_neg h2] at h
        split
        · rfl
        · rename_i h4
          rw [if_neg h4] at h
          split
          · rename_i h3
            rw [if_pos h3] at h
            rw [wrL_short ag 0 _ (by simp at h ⊢; omega)]; simp
          · simp
theorem wrL_short : ∀ (xs : List Ex) (i : Nat) (acc : List UInt8), acc.length + (wtxL xs i).length ≤ 65536 → wrL xs i acc = acc ++ wtxL xs i
  | [], _, acc, _ => by simp [wrL, wtxL]
  | x :: xs, i, acc, h => by
    simp only [wrL, wtxL] at *
    by_cases hi : 0 < i
    · simp only [hi, if_true, List.length_append] at *
      rw [wr_short x _ (by simp at h ⊢; omega), wrL_short xs _ _ (by simp at h ⊢; omega)]; simp
    · simp only [hi, if_false, List.length_append, List.nil_append] at *
      rw [wr_short x _ (by omega), wrL_short xs _ _ (by simp at h ⊢; omega)]; simp
end

mutual
theorem wr_le : ∀ (x : Ex) (acc : List UInt8), acc.length ≤ (wr x acc).length ∧ (wr x acc).length ≤ acc.length + (wtx x).length
  | .mk k nm n zs ag, acc => by
    simp only [wr, wtx]
    split
    · omega
    · split
      · simp
      · split
        · rw [joinInts_app, joinInts_app zs _ [91]]; simp
        · split
          · simp
          · split
            · have := wrL_le ag 0 (acc ++ nm ++ [40]); simp at this ⊢; omega
            · simp
theorem wrL_le : ∀ (xs : List Ex) (i : Nat) (acc : List UInt8), acc.length ≤ (wrL xs i acc).length ∧ (wrL xs i acc).length ≤ acc.length + (wtxL xs i).length
  | [], _, acc => by simp [wrL, wtxL]
  | x :: xs, i, acc => by
    simp only [wrL, wtxL]
    by_cases hi : 0 < i
    · simp only [hi, if_true]
      have h1 := wr_le x (acc ++ sepB)
      have h2 := wrL_le xs (i + 1) (wr x (acc ++ sepB))
      simp at h1 h2 ⊢; omega
    · simp only [hi, if_false]
      have h1 := wr_le x acc
      have h2 := wrL_le xs (i + 1) (wr x acc)
      simp at h1 h2 ⊢; omega
end

mutual
theorem wr_long : ∀ (x : Ex) (acc : List UInt8), 65536 < acc.length + (wtx x).length → 65536 < (wr x acc).length
  | .mk k nm n zs ag, acc, h => by
    simp only [wr, wtx] at *
    split
    · omega
    · rename_i h0
      split
      · rename_i h1; rw [if_pos h1] at h; simpa using h
      · rename_i h1
        rw [if_neg h1] at h
        split
        · rename_i h2; rw [if_pos h2] at h
          rw [joinInts_app zs _ [91]] at h; rw [joinInts_app]; simp at h ⊢; omega
        · rename_i h2
          rw [if_neg h2] at h
          split
          · rename_i h4; rw [if_pos h4] at h; simpa using h
          · rename_i h4
            rw [if_neg h4] at h
            split
            · rename_i h3
              rw [if_pos h3] at h
              by_cases hl : 65536 < (acc ++ nm ++ [40]).length + (wtxL ag 0).length
              · have := wrL_long ag 0 _ hl; simp at this ⊢; omega
              · rw [wrL_short ag 0 _ (by omega)]; simp at h hl ⊢; omega
            · rename_i h3; rw [if_neg h3] at h; simp at h; omega
theorem wrL_long : ∀ (xs : List Ex) (i : Nat) (acc : List UInt8), 65536 < acc.length + (wtxL xs i).length → 65536 < (wrL xs i acc).length
  | [], _, acc, h => by simp [wrL, wtxL] at *; omega
  | x :: xs, i, acc, h => by
    simp only [wrL, wtxL] at *
    by_cases hi : 0 < i
    · simp only [hi, if_true] at *
      by_cases hl : 65536 < (acc ++ sepB).length + (wtx x).length
      · have h1 := wr_long x _ hl
        have h2 := wrL_le xs (i + 1) (wr x (acc ++ sepB))
        omega
      · rw [wr_short x _ (by omega)]
        refine wrL_long xs _ _ (by simp at h ⊢; omega)
    · simp only [hi, if_false] at *
      by_cases hl : 65536 < acc.length + (wtx x).length
      · have h1 := wr_long x _ hl
        have h2 := wrL_le xs (i + 1) (wr x acc)
        omega
      · rw [wr_short x _ (by omega)]
        refine wrL_long xs _ _ (by simp at h ⊢; omega)
end
end Go.Proofs.YtcaaadhhaanbcaaDoor
