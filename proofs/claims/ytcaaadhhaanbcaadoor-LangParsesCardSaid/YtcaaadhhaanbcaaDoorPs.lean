/- The plain functions of the language's tokens and expressions: lists and numbers alone, no Go and no memory. -/
import Derived.WalkKit
namespace Go.Proofs.YtcaaadhhaanbcaaDoor

inductive R (α : Type) where
  | ok (a : α)
  | err (c : Int) (p : Nat)

structure Tok where
  kind : Int
  text : List UInt8
  n : Int
  pos : Nat

def letterB (b : Int) : Bool := decide (97 ≤ b) && decide (b ≤ 122)
def digitB (b : Int) : Bool := decide (48 ≤ b) && decide (b ≤ 57)
def nameB (b : Int) : Bool := letterB b || digitB b || b == 95
def blankB (b : Int) : Bool := b == 32 || b == 9 || b == 10
def signB (b : Int) : Bool := b == 40 || b == 41 || b == 91 || b == 93 || b == 44

def runLen (p : Int → Bool) : List UInt8 → Nat
  | [] => 0
  | b :: l => if p b.toNat then runLen p l + 1 else 0

theorem runLen_le (p : Int → Bool) (l : List UInt8) : runLen p l ≤ l.length := by
  induction l with
  | nil => simp [runLen]
  | cons b l ih => simp only [runLen]; split <;> simp <;> omega

theorem runLen_get (p : Int → Bool) : ∀ (l : List UInt8) (k : Nat) (h : k < l.length), k < runLen p l → p ((l[k]).toNat : Int) = true
  | [], k, h, _ => by simp at h
  | b :: l, k, h, hk => by
    simp only [runLen] at hk
    split at hk
    · rename_i hb
      cases k with
      | zero => exact hb
      | succ k => exact runLen_get p l k (by simpa using h) (by omega)
    · omega

theorem runLen_stop (p : Int → Bool) : ∀ (l : List UInt8) (h : runLen p l < l.length), p ((l[runLen p l]).toNat : Int) = false
  | [], h => by simp at h
  | b :: l, h => by
    by_cases hb : p (b.toNat : Int) = true
    · have e : runLen p (b :: l) = runLen p l + 1 := by simp [runLen, hb]
      have h' : runLen p l < l.length := by simp [e] at h; omega
      have := runLen_stop p l h'
      simp only [e, List.getElem_cons_succ]
      exact this
    · have e : runLen p (b :: l) = 0 := by simp [runLen, hb]
      simp only [e, List.getElem_cons_zero]
      simpa using hb

def numV : List UInt8 → Int → Option Int
  | [], acc => some acc
  | b :: l, acc => if acc * 10 + ((b.toNat : Int) - 48) > 9999999 then none else numV l (acc * 10 + ((b.toNat : Int) - 48))

def badEnd (l : List UInt8) : Bool :=
  match l.drop (runLen digitB l) with
  | [] => false
  | b :: _ => letterB b.toNat || (b.toNat : Int) == 95
def lead0 (l : List UInt8) : Bool := decide (1 < runLen digitB l) && (match l with | [] => false | b :: _ => (b.toNat : Int) == 48)

def numTok (l : List UInt8) (p : Nat) : R Tok :=
  if badEnd l || lead0 l then .err 14 p
  else match numV (l.take (runLen digitB l)) 0 with
    | none => .err 8 p
    | some v => .ok ⟨2, l.take (runLen digitB l), v, p⟩

/-- The tokens of l, which begins at p; acc: those before. -/
def tk : Nat → Nat → List UInt8 → List Tok → R (List Tok)
  | _, _, [], acc => .ok acc
  | 0, _, _ :: _, acc => .ok acc
  | f + 1, p, b :: l, acc =>
    if blankB b.toNat then tk f (p + 1) l acc
    else if letterB b.toNat then
      if runLen nameB (b :: l) > 16 then .err 8 p
      else tk f (p + runLen nameB (b :: l)) ((b :: l).drop (runLen nameB (b :: l))) (acc ++ [⟨1, (b :: l).take (runLen nameB (b :: l)), 0, p⟩])
    else if digitB b.toNat then
      match numTok (b :: l) p with
      | .err c q => .err c q
      | .ok t => tk f (p + runLen digitB (b :: l)) ((b :: l).drop (runLen digitB (b :: l))) (acc ++ [t])
    else if signB b.toNat then tk f (p + 1) l (acc ++ [⟨3, [b], 0, p⟩])
    else .err 14 p

def toks (l : List UInt8) : R (List Tok) := if 65536 < l.length then .err 8 0 else tk l.length 0 l []

theorem tk_nil (f p : Nat) (acc : List Tok) : tk f p [] acc = .ok acc := by cases f <;> rfl

theorem tk_blank {f p : Nat} {b : UInt8} {l : List UInt8} {acc : List Tok} (h : blankB (b.toNat : Int) = true) : tk (f + 1) p (b :: l) acc = tk f (p + 1) l acc := by
  rw [tk, if_pos h]
theorem tk_long {f p n : Nat} {b : UInt8} {l r : List UInt8} {acc : List Tok} (he : l = b :: r) (h1 : blankB (b.toNat : Int) = false) (h2 : letterB (b.toNat : Int) = true) (hn : runLen nameB l = n) (h : 16 < n) :
    tk (f + 1) p l acc = .err 8 p := by
  subst he; rw [tk, if_neg (by simp [h1]), if_pos h2, if_pos (by omega)]
theorem tk_name {f p n : Nat} {b : UInt8} {l r : List UInt8} {acc : List Tok} (he : l = b :: r) (h1 : blankB (b.toNat : Int) = false) (h2 : letterB (b.toNat : Int) = true) (hn : runLen nameB l = n) (h : ¬ 16 < n) :
    tk (f + 1) p l acc = tk f (p + n) (l.drop n) (acc ++ [⟨1, l.take n, 0, p⟩]) := by
  subst he; rw [tk, if_neg (by simp [h1]), if_pos h2, if_neg (by omega), hn]
theorem tk_num {f p n : Nat} {b : UInt8} {l r : List UInt8} {acc : List Tok} {t : Tok} (he : l = b :: r) (h1 : blankB (b.toNat : Int) = false) (h2 : letterB (b.toNat : Int) = false) (h3 : digitB (b.toNat : Int) = true)
    (hn : runLen digitB l = n) (h : numTok l p = .ok t) : tk (f + 1) p l acc = tk f (p + n) (l.drop n) (acc ++ [t]) := by
  subst he; rw [tk, if_neg (by simp [h1]), if_neg (by simp [h2]), if_pos h3, h, hn]
theorem tk_numErr {f p q : Nat} {c : Int} {b : UInt8} {l r : List UInt8} {acc : List Tok} (he : l = b :: r) (h1 : blankB (b.toNat : Int) = false) (h2 : letterB (b.toNat : Int) = false) (h3 : digitB (b.toNat : Int) = true)
    (h : numTok l p = .err c q) : tk (f + 1) p l acc = .err c q := by
  subst he; rw [tk, if_neg (by simp [h1]), if_neg (by simp [h2]), if_pos h3, h]
theorem tk_sign {f p : Nat} {b : UInt8} {l r : List UInt8} {acc : List Tok} (he : l = b :: r) (h1 : blankB (b.toNat : Int) = false) (h2 : letterB (b.toNat : Int) = false) (h3 : digitB (b.toNat : Int) = false) (h4 : signB (b.toNat : Int) = true) :
    tk (f + 1) p l acc = tk f (p + 1) (l.drop 1) (acc ++ [⟨3, l.take 1, 0, p⟩]) := by
  subst he; rw [tk, if_neg (by simp [h1]), if_neg (by simp [h2]), if_neg (by simp [h3]), if_pos h4]; rfl
theorem tk_bad {f p : Nat} {b : UInt8} {l r : List UInt8} {acc : List Tok} (he : l = b :: r) (h1 : blankB (b.toNat : Int) = false) (h2 : letterB (b.toNat : Int) = false) (h3 : digitB (b.toNat : Int) = false) (h4 : signB (b.toNat : Int) = false) :
    tk (f + 1) p l acc = .err 14 p := by
  subst he; rw [tk, if_neg (by simp [h1]), if_neg (by simp [h2]), if_neg (by simp [h3]), if_neg (by simp [h4])]
theorem numTok_ok {l : List UInt8} {p : Nat} {t : Tok} (h : numTok l p = .ok t) : t.text = l.take (runLen digitB l) := by
  unfold numTok at h
  split at h
  · cases h
  · split at h
    · cases h
    · cases h; rfl

end Go.Proofs.YtcaaadhhaanbcaaDoor
