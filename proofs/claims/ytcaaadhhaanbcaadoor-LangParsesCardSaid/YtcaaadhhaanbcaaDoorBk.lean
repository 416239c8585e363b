/- Plain: the text of a checked expression has its tokens, and is parsed as the expression. -/
import Derived.Test.YtcaaadhhaanbcaaDoorWx2
import Derived.Test.YtcaaadhhaanbcaaDoorPx
namespace Go.Proofs.YtcaaadhhaanbcaaDoor
open Go.RowKit

theorem letter_name {b : Int} (h : letterB b = true) : nameB b = true := by simp [nameB, h]
theorem digit_name {b : Int} (h : digitB b = true) : nameB b = true := by simp [nameB, h]

theorem tk_fuel : ∀ (f g p : Nat) (l : List UInt8) (acc : List Tok), l.length ≤ f → l.length ≤ g → tk f p l acc = tk g p l acc
  | f, g, p, [], acc, _, _ => by rw [tk_nil, tk_nil]
  | 0, _, _, _ :: _, _, h, _ => by simp at h
  | _ + 1, 0, _, _ :: _, _, _, h => by simp at h
  | f + 1, g + 1, p, b :: l, acc, hf, hg => by
    simp only [List.length_cons] at hf hg
    rw [tk, tk]
    split
    · exact tk_fuel f g _ _ _ (by omega) (by omega)
    · split
      · rename_i hl
        have : 1 ≤ runLen nameB (b :: l) := by simp [runLen, letter_name hl]
        split
        · rfl
        · exact tk_fuel f g _ _ _ (by simp; omega) (by simp; omega)
      · split
        · rename_i hd
          have : 1 ≤ runLen digitB (b :: l) := by simp [runLen, hd]
          split
          · rfl
          · exact tk_fuel f g _ _ _ (by simp; omega) (by simp; omega)
        · split
          · exact tk_fuel f g _ _ _ (by omega) (by omega)
          · rfl

def T (p : Nat) (l : List UInt8) (acc : List Tok) : R (List Tok) := tk l.length p l acc
theorem tk_T {f p : Nat} {l : List UInt8} {acc : List Tok} (h : l.length ≤ f) : tk f p l acc = T p l acc := tk_fuel _ _ _ _ _ h (Nat.le_refl _)

theorem runLen_app {p : Int → Bool} {rest : List UInt8} (hr : ∀ b r, rest = b :: r → p (b.toNat : Int) = false) : ∀ (l : List UInt8), runLen p l = l.length → runLen p (l ++ rest) = l.length
  | [], _ => by
    cases rest with
    | nil => rfl
    | cons b r => simp [runLen, hr b r rfl]
  | c :: l, h => by
    simp only [runLen, List.length_cons] at h
    split at h
    · rename_i hc
      simp only [List.cons_append, runLen, hc, if_true, List.length_cons]
      rw [runLen_app hr l (by omega)]
    · omega

theorem T_blank {p : Nat} {l : List UInt8} {acc : List Tok} : T p (32 :: l) acc = T (p + 1) l acc := by
  unfold T; rw [List.length_cons, tk_blank (by decide)]
theorem T_sign {p : Nat} {b : UInt8} {l : List UInt8} {acc : List Tok} (h1 : blankB (b.toNat : Int) = false) (h2 : letterB (b.toNat : Int) = false) (h3 : digitB (b.toNat : Int) = false) (h4 : signB (b.toNat : Int) = true) :
    T p (b :: l) acc = T (p + 1) l (acc ++ [⟨3, [b], 0, p⟩]) := by
  unfold T; rw [List.length_cons, tk_sign rfl h1 h2 h3 h4]; rfl

theorem letter_blank {b : Int} (h : letterB b = true) : blankB b = false := by
  simp only [letterB, Bool.and_eq_true, decide_eq_true_eq] at h
  simp [blankB]; omega
theorem digit_blank {b : Int} (h : digitB b = true) : blankB b = false := by
  simp only [digitB, Bool.and_eq_true, decide_eq_true_eq] at h
  simp [blankB]; omega
theorem digit_letter {b : Int} (h : digitB b = true) : letterB b = false := by
  simp only [digitB, Bool.and_eq_true, decide_eq_true_eq] at h
  simp [letterB]; omega

/-- No name, and no number, goes on in l. -/
def endW (l : List UInt8) : Prop := ∀ b r, l = b :: r → nameB (b.toNat : Int) = false
theorem endW_nil : endW [] := fun _ _ h => by cases h
theorem endW_cons {b : UInt8} {l : List UInt8} (h : nameB (b.toNat : Int) = false) : endW (b :: l) := fun _ _ e => by cases e; exact h
theorem endW_digit {l : List UInt8} (h : endW l) : ∀ b r, l = b :: r → digitB (b.toNat : Int) = false := fun b r e => by
  have := h b r e
  simp only [nameB, Bool.or_eq_false_iff] at this; exact this.1.2

theorem T_name {p : Nat} {nm rest : List UInt8} {acc : List Tok} (h : isNam nm = true) (hr : endW rest) :
    T p (nm ++ rest) acc = T (p + nm.length) rest (acc ++ [⟨1, nm, 0, p⟩]) := by
  cases nm with
  | nil => cases h
  | cons c r =>
    simp only [isNam, Bool.and_eq_true, decide_eq_true_eq, beq_iff_eq] at h
    obtain ⟨⟨h16, hl⟩, hn⟩ := h
    have hrl := runLen_app hr _ hn
    have e := tk_name (f := (r ++ rest).length) (p := p) (acc := acc) (l := (c :: r) ++ rest) rfl (letter_blank hl) hl hrl (by omega)
    have : T p ((c :: r) ++ rest) acc = tk ((r ++ rest).length + 1) p ((c :: r) ++ rest) acc := rfl
    rw [this, e, List.drop_left, List.take_left]
    exact tk_T (by simp)

theorem numV_snoc : ∀ (l : List UInt8) (b : UInt8) (acc : Int), numV (l ++ [b]) acc = (numV l acc).bind fun v => if v * 10 + ((b.toNat : Int) - 48) > 9999999 then none else some (v * 10 + ((b.toNat : Int) - 48))
  | [], b, acc => by simp [numV]
  | c :: l, b, acc => by
    simp only [List.cons_append, numV]
    split
    · rfl
    · exact numV_snoc l b _
theorem toNat_digit (d : Nat) (h : d < 10) : (UInt8.ofNat (48 + d)).toNat = 48 + d := by
  simp [UInt8.toNat_ofNat']; omega
theorem numV_dec (u : Nat) : u ≤ 9999999 → numV (Lib.decDigits u) 0 = some (u : Int) := by
  induction u using Nat.strongRecOn with
  | _ u ih =>
    intro h
    rw [Lib.decDigits]
    split
    · rename_i h10
      simp only [numV]
      rw [toNat_digit u h10, if_neg (by omega)]
      congr 1; omega
    · rw [numV_snoc, ih (u / 10) (by omega) (by omega)]
      simp only [Option.bind_some]
      rw [toNat_digit (u % 10) (by omega), if_neg (by omega)]
      congr 1; omega
theorem runLen_snoc {p : Int → Bool} {b : UInt8} (hb : p (b.toNat : Int) = true) : ∀ (l : List UInt8), runLen p l = l.length → runLen p (l ++ [b]) = l.length + 1
  | [], _ => by simp [runLen, hb]
  | c :: l, h => by
    simp only [runLen, List.length_cons] at h
    split at h
    · rename_i hc
      simp only [List.cons_append, runLen, hc, if_true, List.length_cons]
      rw [runLen_snoc hb l (by omega)]
    · omega
theorem digitB_ofNat (d : Nat) (h : d < 10) : digitB ((UInt8.ofNat (48 + d)).toNat : Int) = true := by
  rw [toNat_digit d h]; simp [digitB]; omega
theorem runLen_dec (u : Nat) : runLen digitB (Lib.decDigits u) = (Lib.decDigits u).length := by
  induction u using Nat.strongRecOn with
  | _ u ih =>
    rw [Lib.decDigits]
    split
    · rename_i h10; simp only [runLen]; rw [if_pos (digitB_ofNat u h10)]; rfl
    · rw [runLen_snoc (digitB_ofNat _ (by omega)) _ (ih (u / 10) (by omega))]; simp
theorem dec_head (u : Nat) : 1 ≤ u → ∃ b r, Lib.decDigits u = b :: r ∧ (b.toNat : Int) ≠ 48 := by
  induction u using Nat.strongRecOn with
  | _ u ih =>
    intro h
    rw [Lib.decDigits]
    split
    · rename_i h10; exact ⟨_, [], rfl, by rw [toNat_digit u h10]; omega⟩
    · obtain ⟨b, r, e, hb⟩ := ih (u / 10) (by omega) (by omega)
      exact ⟨b, r ++ [UInt8.ofNat (48 + u % 10)], by rw [e]; rfl, hb⟩
theorem dec_cons (u : Nat) : ∃ b r, Lib.decDigits u = b :: r := by
  rw [Lib.decDigits]; split
  · exact ⟨_, _, rfl⟩
  · cases h : Lib.decDigits (u / 10) with
    | nil => exact ⟨_, _, rfl⟩
    | cons b r => exact ⟨_, _, rfl⟩

theorem numTok_dec {u p : Nat} {rest : List UInt8} (h : u ≤ 9999999) (hr : endW rest) : numTok (Lib.decDigits u ++ rest) p = .ok ⟨2, Lib.decDigits u, u, p⟩ := by
  have hrl := runLen_app (endW_digit hr) _ (runLen_dec u)
  unfold numTok
  have hb : badEnd (Lib.decDigits u ++ rest) = false := by
    unfold badEnd; rw [hrl, List.drop_left]
    cases rest with
    | nil => rfl
    | cons b r =>
      have := hr b r rfl
      simp only [nameB, Bool.or_eq_false_iff] at this
      simp only [this.1.1, this.2, Bool.or_self]
  have hl : lead0 (Lib.decDigits u ++ rest) = false := by
    unfold lead0; rw [hrl]
    rcases Nat.eq_zero_or_pos u with h0 | h0
    · subst h0
      have : Lib.decDigits 0 = [48] := by rw [Lib.decDigits]; rfl
      rw [this]; rfl
    · obtain ⟨b, r, e, hb⟩ := dec_head u h0
      rw [e]; simp only [List.cons_append]
      rw [show ((b.toNat : Int) == 48) = false by simpa using hb]; simp
  rw [hb, hl]
  simp only [Bool.or_self, Bool.false_eq_true, if_false]
  rw [hrl, List.take_left, numV_dec u h]

theorem T_num {p : Nat} {z : Int} {rest : List UInt8} {acc : List Tok} (h : isNum z = true) (hr : endW rest) :
    T p (Lib.itoa z ++ rest) acc = T (p + (Lib.itoa z).length) rest (acc ++ [⟨2, Lib.itoa z, z, p⟩]) := by
  obtain ⟨h0, h1⟩ := isNum_word h
  obtain ⟨u, rfl⟩ : ∃ u : Nat, z = u := ⟨z.toNat, by omega⟩
  rw [Lib.itoa_nonneg]
  have ht := numTok_dec (p := p) (show u ≤ 9999999 by omega) hr
  have hrl := runLen_app (endW_digit hr) _ (runLen_dec u)
  obtain ⟨b, r, e⟩ := dec_cons u
  have hd : digitB (b.toNat : Int) = true := by
    have := runLen_dec u
    rw [e] at this
    simp only [runLen, List.length_cons] at this
    split at this
    · assumption
    · omega
  rw [e] at ht hrl ⊢
  have e2 := tk_num (f := (r ++ rest).length) (p := p) (acc := acc) (l := (b :: r) ++ rest) rfl (digit_blank hd) (digit_letter hd) hd hrl ht
  have : T p ((b :: r) ++ rest) acc = tk ((r ++ rest).length + 1) p ((b :: r) ++ rest) acc := rfl
  rw [this, e2, List.drop_left]
  exact tk_T (by simp)

/-- A token without its place. -/
abbrev TT := Int × List UInt8 × Int
def strip (t : Tok) : TT := (t.kind, t.text, t.n)
abbrev sg (b : UInt8) : TT := (3, [b], 0)

/-- The text l has the tokens tt, wherever it stands. -/
def S (l : List UInt8) (tt : List TT) : Prop := ∀ (p : Nat) (acc : List Tok) (rest : List UInt8), endW rest → ∃ ts : List Tok, ts.map strip = tt ∧ T p (l ++ rest) acc = T (p + l.length) rest (acc ++ ts)
theorem S_nil : S [] [] := fun _ _ _ _ => ⟨[], rfl, by simp⟩
theorem S_app {l1 l2 : List UInt8} {t1 t2 : List TT} (h1 : S l1 t1) (h2 : S l2 t2) (he : ∀ rest, endW rest → endW (l2 ++ rest)) : S (l1 ++ l2) (t1 ++ t2) := fun p acc rest hr => by
  obtain ⟨ts1, e1, g1⟩ := h1 p acc (l2 ++ rest) (he rest hr)
  obtain ⟨ts2, e2, g2⟩ := h2 (p + l1.length) (acc ++ ts1) rest hr
  exact ⟨ts1 ++ ts2, by simp [e1, e2], by rw [List.append_assoc, g1, g2]; simp [Nat.add_assoc]⟩
theorem S_sign {b : UInt8} (h1 : blankB (b.toNat : Int) = false) (h2 : letterB (b.toNat : Int) = false) (h3 : digitB (b.toNat : Int) = false) (h4 : signB (b.toNat : Int) = true) : S [b] [sg b] := fun p _ _ _ =>
  ⟨[⟨3, [b], 0, p⟩], rfl, T_sign h1 h2 h3 h4⟩
theorem S_name {nm : List UInt8} (h : isNam nm = true) : S nm [(1, nm, 0)] := fun p _ _ hr => ⟨[⟨1, nm, 0, p⟩], rfl, T_name h hr⟩
theorem S_num {z : Int} (h : isNum z = true) : S (Lib.itoa z) [(2, Lib.itoa z, z)] := fun p _ _ hr => ⟨[⟨2, Lib.itoa z, z, p⟩], rfl, T_num h hr⟩
theorem S_blank {l : List UInt8} {tt : List TT} (h : S l tt) : S (32 :: l) tt := fun p acc rest hr => by
  obtain ⟨ts, e, g⟩ := h (p + 1) acc rest hr
  exact ⟨ts, e, by rw [List.cons_append, T_blank, g, show p + 1 + l.length = p + (32 :: l).length by simp; omega]⟩
/-- A sign in front: what comes behind is read on its own. -/
theorem S_signed {b : UInt8} {l : List UInt8} {tt : List TT} (h1 : blankB (b.toNat : Int) = false) (h2 : letterB (b.toNat : Int) = false) (h3 : digitB (b.toNat : Int) = false) (h4 : signB (b.toNat : Int) = true) (h : S l tt) : S (b :: l) (sg b :: tt) := fun p acc rest hr => by
  obtain ⟨ts, e, g⟩ := h (p + 1) (acc ++ [⟨3, [b], 0, p⟩]) rest hr
  exact ⟨⟨3, [b], 0, p⟩ :: ts, by simp [e, strip], by rw [List.cons_append, T_sign h1 h2 h3 h4, g, show p + 1 + l.length = p + (b :: l).length by simp; omega]; simp⟩

/-- The entries of a list, and their tokens. -/
def wz : List Int → Nat → List UInt8
  | [], _ => []
  | z :: zs, i => (if 0 < i then sepB else []) ++ Lib.itoa z ++ wz zs (i + 1)
def tz : List Int → Nat → List TT
  | [], _ => []
  | z :: zs, i => (if 0 < i then [sg 44] else []) ++ (2, Lib.itoa z, z) :: tz zs (i + 1)
mutual
def tx : Ex → List TT
  | .mk k nm n zs ag =>
    if k = 1 then [(2, Lib.itoa n, n)]
    else if k = 2 then sg 91 :: (tz zs 0 ++ [sg 93])
    else if k = 4 then [(1, nm, 0)]
    else if k = 3 then (1, nm, 0) :: sg 40 :: (txL ag 0 ++ [sg 41])
    else []
def txL : List Ex → Nat → List TT
  | [], _ => []
  | x :: xs, i => (if 0 < i then [sg 44] else []) ++ tx x ++ txL xs (i + 1)
end

theorem wz_join (zs : List Int) (acc : List UInt8) (i : Nat) (h : i ≤ zs.length) : joinN (intStep zs) i acc ++ wz (zs.drop i) i = acc ++ wz zs 0 := by
  induction i with
  | zero => simp [joinN]
  | succ i ih =>
    rw [← ih (by omega), List.drop_eq_getElem_cons (show i < zs.length by omega)]
    simp only [wz, joinN, intStep, List.getElem?_eq_getElem (show i < zs.length by omega)]
    split <;> simp
theorem wz_all (zs : List Int) (acc : List UInt8) : joinN (intStep zs) zs.length acc = acc ++ wz zs 0 := by
  rw [← wz_join zs acc zs.length (Nat.le_refl _), List.drop_length]; simp [wz]

theorem endW_93 (r : List UInt8) : endW (93 :: r) := endW_cons (by decide)
theorem endW_41 (r : List UInt8) : endW (41 :: r) := endW_cons (by decide)
theorem endW_44 (r : List UInt8) : endW (44 :: r) := endW_cons (by decide)
theorem endW_40 (r : List UInt8) : endW (40 :: r) := endW_cons (by decide)
theorem endW_wz : ∀ (zs : List Int) (i : Nat) (r : List UInt8), 0 < i → endW (wz zs i ++ 93 :: r)
  | [], _, r, _ => endW_93 r
  | z :: zs, i, r, h => by simp only [wz, if_pos h, sepB, List.cons_append, List.append_assoc]; exact endW_44 _
theorem endW_wtxL : ∀ (xs : List Ex) (i : Nat) (r : List UInt8), 0 < i → endW (wtxL xs i ++ 41 :: r)
  | [], _, r, _ => by simp only [wtxL, List.nil_append]; exact endW_41 r
  | x :: xs, i, r, h => by simp only [wtxL, if_pos h, sepB, List.cons_append, List.append_assoc]; exact endW_44 _

theorem S_wz : ∀ (zs : List Int) (i : Nat), (∀ z ∈ zs, isNum z = true) → S (wz zs i ++ [93]) (tz zs i ++ [sg 93])
  | [], i, _ => S_sign (by decide) (by decide) (by decide) (by decide)
  | z :: zs, i, h => by
    have ih := S_wz zs (i + 1) (fun y hy => h y (List.mem_cons_of_mem _ hy))
    have h1 := S_app (S_num (h z (List.mem_cons_self ..))) ih (fun rest _ => by rw [List.append_assoc]; exact endW_wz zs (i + 1) rest (by omega))
    simp only [wz, tz]
    by_cases hi : 0 < i
    · simp only [if_pos hi, sepB, List.cons_append, List.nil_append, List.append_assoc] at h1 ⊢
      exact S_signed (by decide) (by decide) (by decide) (by decide) (S_blank h1)
    · simp only [if_neg hi, List.nil_append, List.cons_append, List.append_assoc] at h1 ⊢
      exact h1

mutual
theorem S_tx : ∀ x : Ex, formB x = true → S (wtx x) (tx x)
  | .mk k nm n zs ag, hf => by
    rw [formB_eq, Bool.and_eq_true] at hf
    obtain ⟨hnb, hfl⟩ := hf
    obtain ⟨hnums, hnn, _⟩ := nodeB_parts hnb
    simp only [Ex.list, Ex.n, Ex.args] at hnums hnn hfl
    simp only [wtx, tx]
    split
    · exact S_num hnn
    · rename_i h1
      split
      · rw [wz_all]
        have := S_signed (b := 91) (by decide) (by decide) (by decide) (by decide) (S_wz zs 0 hnums)
        simpa using this
      · rename_i h2
        split
        · rename_i h4
          have hn : isNam nm = true := by
            simp only [nodeB, Ex.kind, Ex.name, Bool.and_eq_true] at hnb
            have h := hnb.2
            simp [h4] at h; exact h.1.1.2
          exact S_name hn
        · rename_i h4
          split
          · rename_i h3
            have hn : isNam nm = true := by
              simp only [nodeB, Ex.kind, Ex.name, Bool.and_eq_true] at hnb
              have h := hnb.2
              simp [h3] at h; exact h.1.2
            have ih := S_signed (b := 40) (by decide) (by decide) (by decide) (by decide) (S_txL ag 0 hfl)
            have := S_app (S_name hn) ih (fun rest _ => endW_40 _)
            simpa using this
          · exact S_nil
theorem S_txL : ∀ (xs : List Ex) (i : Nat), formBL xs = true → S (wtxL xs i ++ [41]) (txL xs i ++ [sg 41])
  | [], i, _ => by simp only [wtxL, txL, List.nil_append]; exact S_sign (by decide) (by decide) (by decide) (by decide)
  | x :: xs, i, hf => by
    simp only [formBL, Bool.and_eq_true] at hf
    have ih := S_txL xs (i + 1) hf.2
    have h1 := S_app (S_tx x hf.1) ih (fun rest _ => by rw [List.append_assoc]; exact endW_wtxL xs (i + 1) rest (by omega))
    simp only [wtxL, txL]
    by_cases hi : 0 < i
    · simp only [if_pos hi, sepB, List.cons_append, List.nil_append, List.append_assoc] at h1 ⊢
      exact S_signed (by decide) (by decide) (by decide) (by decide) (S_blank h1)
    · simp only [if_neg hi, List.nil_append, List.append_assoc] at h1 ⊢
      exact h1
end

theorem toks_wtx {x : Ex} (hf : formB x = true) (hl : (wtx x).length ≤ 65536) : ∃ ts, toks (wtx x) = .ok ts ∧ ts.map strip = tx x := by
  obtain ⟨ts, e, g⟩ := S_tx x hf 0 [] [] endW_nil
  refine ⟨ts, ?_, e⟩
  unfold toks
  rw [if_neg (by omega)]
  have : tk (wtx x).length 0 (wtx x) [] = T 0 (wtx x ++ []) [] := by rw [List.append_nil]; rfl
  rw [this, g]
  simp [T, tk_nil]
end Go.Proofs.YtcaaadhhaanbcaaDoor
