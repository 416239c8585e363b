/- The grammar answers every list of tokens; the tokens are no more than the bytes. -/
import Derived.Test.YtcaaadhhaanbcaaDoorPt
namespace Go.Proofs.YtcaaadhhaanbcaaDoor

theorem pNums_ends : ∀ (l : List Tok) (acc zs : List Int) (l2 : List Tok), pNums acc l = .ok zs l2 → l2.length < l.length
  | [], acc, zs, l2, h => by simp [pNums] at h
  | [t], acc, zs, l2, h => by
    simp only [pNums] at h
    split at h
    · cases h
    · split at h <;> cases h
  | t :: c :: r, acc, zs, l2, h => by
    simp only [pNums] at h
    split at h
    · cases h
    · split at h
      · cases h
      · split at h
        · cases h; simp; omega
        · split at h
          · have := pNums_ends r _ _ _ h; simp; omega
          · cases h
theorem pList_ends {l : List Tok} {zs : List Int} {l2 : List Tok} (h : pList l = .ok zs l2) : l2.length ≤ l.length := by
  unfold pList at h
  split at h
  · cases h; simp
  · have := pNums_ends _ _ _ _ h; omega

theorem PX.ends {m : Option (List Ex)} {d n : Nat} {l : List Tok} {r : PR} (h : PX m d n l r) : ∀ xs n2 l2, r = .ok xs n2 l2 → l2.length < l.length := by
  induction h with
  | bad _ => intro _ _ _ e; cases e
  | deep _ _ => intro _ _ _ e; cases e
  | num _ _ _ => intro _ _ _ e; cases e; simp
  | list _ _ _ hl => intro _ _ _ e; cases e; have := pList_ends hl; simp; omega
  | listErr _ _ _ _ => intro _ _ _ e; cases e
  | name _ _ _ _ => intro _ _ _ e; cases e; simp
  | call _ _ _ _ _ ih => intro _ _ _ e; cases e; have := ih _ _ _ rfl; simp; omega
  | callErr _ _ _ _ _ => intro _ _ _ e; cases e
  | done _ => intro _ _ _ e; cases e; simp
  | sep _ _ => intro _ _ _ e; cases e
  | @arg _ _ _ acc _ l l1 _ _ _ hs _ _ ih1 ih2 =>
    intro _ _ _ e
    have h1 := ih1 _ _ _ rfl
    have h2 := ih2 _ _ _ e
    have : l1.length ≤ l.length := by
      unfold sepT at hs
      split at hs
      · cases hs; exact Nat.le_refl _
      · split at hs
        · cases hs; simp
        · cases hs
    omega
  | argErr _ _ _ _ => intro _ _ _ e; cases e

theorem PX.one {d n : Nat} {l : List Tok} {xs : List Ex} {n2 : Nat} {l2 : List Tok} (h : PX none d n l (.ok xs n2 l2)) : ∃ x, xs = [x] := by
  cases h <;> exact ⟨_, rfl⟩

theorem sepT_le {acc : List Ex} {l l1 : List Tok} (h : sepT acc l = some l1) : l1.length ≤ l.length := by
  unfold sepT at h
  split at h
  · cases h; exact Nat.le_refl _
  · split at h
    · cases h; simp
    · cases h

theorem PX.total : ∀ (k : Nat) (m : Option (List Ex)) (d n : Nat) (l : List Tok), 2 * l.length + (if m.isSome then 1 else 0) < k → ∃ r, PX m d n l r := by
  intro k
  induction k with
  | zero => intro m d n l h; omega
  | succ k ih =>
    intro m d n l h
    cases m with
    | none =>
      cases hb : begins l with
      | false => exact ⟨_, .bad hb⟩
      | true =>
        by_cases hd : 32 < d ∨ n = 1024
        · exact ⟨_, .deep hb hd⟩
        · have hd1 : d ≤ 32 := Nat.le_of_not_lt (fun h => hd (.inl h))
          have hn1 : n ≠ 1024 := fun h => hd (.inr h)
          cases l with
          | nil => simp [begins, isT, kindT] at hb
          | cons t l =>
            cases hs : isS t 91 with
            | true =>
              cases hl : pList l with
              | ok zs l2 => exact ⟨_, .list hs hd1 hn1 hl⟩
              | err c l2 => exact ⟨_, .listErr hs hd1 hn1 hl⟩
            | false =>
              by_cases h2 : t.kind = 2
              · exact ⟨_, .num h2 hd1 hn1⟩
              · have h1 : t.kind = 1 := by
                  simp only [begins, isT, kindT, hs, Bool.false_or, Bool.or_eq_true, beq_iff_eq] at hb
                  rcases hb with hb | hb
                  · exact absurd hb h2
                  · exact hb
                cases hp : isT 40 l with
                | false => exact ⟨_, .name h1 hd1 hn1 hp⟩
                | true =>
                  cases l with
                  | nil => simp [isT] at hp
                  | cons p l =>
                    simp only [isT] at hp
                    obtain ⟨r, hr⟩ := ih (some []) d (n + 1) l (by simp at h ⊢; omega)
                    cases r with
                    | ok ag n2 l2 => exact ⟨_, .call h1 hd1 hn1 hp hr⟩
                    | err c l2 => exact ⟨_, .callErr h1 hd1 hn1 hp hr⟩
    | some acc =>
      cases ht : isT 41 l with
      | true =>
        cases l with
        | nil => simp [isT] at ht
        | cons t l => exact ⟨_, .done ht⟩
      | false =>
        cases hs : sepT acc l with
        | none => exact ⟨_, .sep ht hs⟩
        | some l1 =>
          have hle := sepT_le hs
          obtain ⟨r, hr⟩ := ih none (d + 1) n l1 (by simp at h ⊢; omega)
          cases r with
          | err c l2 => exact ⟨_, .argErr ht hs hr⟩
          | ok xs n2 l2 =>
            obtain ⟨x, rfl⟩ := hr.one
            have hlt := hr.ends _ _ _ rfl
            obtain ⟨r2, hr2⟩ := ih (some (acc ++ [x])) d n2 l2 (by simp at h ⊢; omega)
            exact ⟨_, .arg ht hs hr hr2⟩

theorem tk_len : ∀ (f p : Nat) (l : List UInt8) (acc ts : List Tok), tk f p l acc = .ok ts → ts.length ≤ acc.length + f
  | _, p, [], acc, ts, h => by rw [tk_nil] at h; cases h; omega
  | 0, p, b :: l, acc, ts, h => by simp only [tk] at h; cases h; omega
  | f + 1, p, b :: l, acc, ts, h => by
    rw [tk] at h
    split at h
    · have := tk_len f _ _ _ _ h; omega
    · split at h
      · split at h
        · cases h
        · have := tk_len f _ _ _ _ h; simp at this; omega
      · split at h
        · split at h
          · cases h
          · have := tk_len f _ _ _ _ h; simp at this; omega
        · split at h
          · have := tk_len f _ _ _ _ h; simp at this; omega
          · cases h
theorem toks_len {l : List UInt8} {ts : List Tok} (h : toks l = .ok ts) : ts.length ≤ l.length ∧ l.length ≤ 65536 := by
  unfold toks at h
  split at h
  · cases h
  · have := tk_len _ _ _ _ _ h; simp at this; exact ⟨this, by omega⟩

theorem PT.total (s : List UInt8) : ∃ res, PT s res := by
  cases h : toks s with
  | err c p => exact ⟨_, .scan h⟩
  | ok ts =>
    obtain ⟨r, hr⟩ := PX.total _ none 1 0 ts (Nat.lt_succ_self _)
    cases r with
    | err c l => exact ⟨_, .err h hr⟩
    | ok xs n l =>
      obtain ⟨x, rfl⟩ := hr.one
      cases l with
      | nil => exact ⟨_, .ok h hr⟩
      | cons t l => exact ⟨_, .more h hr⟩
end Go.Proofs.YtcaaadhhaanbcaaDoor
