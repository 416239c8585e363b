/- Plain: blanks between the tokens change neither the tokens nor what is parsed of them. -/
import Derived.Test.YtcaaadhhaanbcaaDoorBp
namespace Go.Proofs.YtcaaadhhaanbcaaDoor
open Go.RowKit

/-- l is empty, or begins with a blank. -/
def endB (l : List UInt8) : Prop := ∀ b r, l = b :: r → blankB (b.toNat : Int) = true
theorem blank_name {b : Int} (h : blankB b = true) : nameB b = false := by
  simp only [blankB, Bool.or_eq_true, beq_iff_eq] at h
  rcases h with (rfl | rfl) | rfl <;> decide
theorem endB_W {l : List UInt8} (h : endB l) : endW l := fun b r e => blank_name (h b r e)
theorem T_blanks {l : List UInt8} {acc : List Tok} : ∀ (g : List UInt8) (p : Nat), (∀ b ∈ g, blankB (b.toNat : Int) = true) → T p (g ++ l) acc = T (p + g.length) l acc
  | [], p, _ => rfl
  | b :: g, p, h => by
    have e : T p (b :: g ++ l) acc = T (p + 1) (g ++ l) acc := by
      unfold T
      rw [List.cons_append, List.length_cons, tk_blank (h b (List.mem_cons_self ..))]
    rw [e, T_blanks g (p + 1) (fun c hc => h c (List.mem_cons_of_mem _ hc)), List.length_cons]
    congr 1; omega

/-- The token's text, with a blank or the end behind it, is read as the token. -/
def tokS (t : Tok) : Prop := ∀ (p : Nat) (acc : List Tok) (rest : List UInt8), endB rest → T p (t.text ++ rest) acc = T (p + t.text.length) rest (acc ++ [⟨t.kind, t.text, t.n, p⟩])

theorem runLen_take_len (p : Int → Bool) (l : List UInt8) : (l.take (runLen p l)).length = runLen p l := by
  rw [List.length_take]; have := runLen_le p l; omega
theorem tokS_num {b : UInt8} {l : List UInt8} {p : Nat} {t : Tok} (hd : digitB (b.toNat : Int) = true) (h : numTok (b :: l) p = .ok t) : tokS t := by
  intro q acc rest hr
  have htx := numTok_ok h
  have e1 : runLen digitB (b :: l) = runLen digitB l + 1 := by simp [runLen, hd]
  have hrt := runLen_take digitB (b :: l)
  have hlen := runLen_take_len digitB (b :: l)
  have hrl := runLen_app (endW_digit (endB_W hr)) ((b :: l).take (runLen digitB (b :: l))) (by rw [hrt, hlen])
  unfold numTok at h
  split at h
  · cases h
  · rename_i hbad
    split at h
    · cases h
    · rename_i v hv
      cases h
      have hcons : (b :: l).take (runLen digitB (b :: l)) = b :: l.take (runLen digitB l) := by rw [e1]; rfl
      have hn : numTok ((b :: l).take (runLen digitB (b :: l)) ++ rest) q = .ok ⟨2, (b :: l).take (runLen digitB (b :: l)), v, q⟩ := by
        unfold numTok
        have hb : badEnd ((b :: l).take (runLen digitB (b :: l)) ++ rest) = false := by
          unfold badEnd; rw [hrl, List.drop_left]
          cases rest with
          | nil => rfl
          | cons c r =>
            have := endB_W hr c r rfl
            simp only [nameB, Bool.or_eq_false_iff] at this
            simp only [this.1.1, this.2, Bool.or_self]
        have hl0 : lead0 ((b :: l).take (runLen digitB (b :: l)) ++ rest) = false := by
          simp only [Bool.or_eq_true, not_or, Bool.not_eq_true] at hbad
          have h0 := hbad.2
          unfold lead0 at h0 ⊢
          rw [hrl, hlen]
          rw [hcons]
          exact h0
        rw [hb, hl0]
        simp only [Bool.or_self, Bool.false_eq_true, if_false]
        rw [hrl, List.take_left, hv]
      simp only [hcons] at hn hrl ⊢
      have e2 := tk_num (f := (l.take (runLen digitB l) ++ rest).length) (p := q) (acc := acc) (l := (b :: l.take (runLen digitB l)) ++ rest) rfl (digit_blank hd) (digit_letter hd) hd hrl hn
      have : T q ((b :: l.take (runLen digitB l)) ++ rest) acc = tk ((l.take (runLen digitB l) ++ rest).length + 1) q ((b :: l.take (runLen digitB l)) ++ rest) acc := rfl
      rw [this, e2, List.drop_left]
      exact tk_T (by simp)

theorem sign_parts {b : UInt8} (h : signB (b.toNat : Int) = true) : blankB (b.toNat : Int) = false ∧ letterB (b.toNat : Int) = false ∧ digitB (b.toNat : Int) = false := by
  simp only [signB, Bool.or_eq_true, beq_iff_eq] at h
  rcases h with (((h | h) | h) | h) | h <;> rw [h] <;> decide

theorem tk_S : ∀ (f p : Nat) (l : List UInt8) (acc ts : List Tok), tk f p l acc = .ok ts → (∀ t ∈ acc, tokS t) → ∀ t ∈ ts, tokS t
  | _, _, [], acc, ts, h, ha => by rw [tk_nil] at h; cases h; exact ha
  | 0, _, b :: l, acc, ts, h, ha => by simp only [tk] at h; cases h; exact ha
  | f + 1, p, b :: l, acc, ts, h, ha => by
    rw [tk] at h
    split at h
    · exact tk_S f _ _ _ _ h ha
    · split at h
      · rename_i hl
        split at h
        · cases h
        · rename_i h16
          refine tk_S f _ _ _ _ h ?_
          intro t ht
          rw [List.mem_append, List.mem_singleton] at ht
          rcases ht with ht | rfl
          · exact ha t ht
          · intro q acc rest hr
            exact T_name (isNam_take hl h16) (endB_W hr)
      · split at h
        · rename_i hd
          split at h
          · cases h
          · rename_i t0 ht0
            refine tk_S f _ _ _ _ h ?_
            intro t ht
            rw [List.mem_append, List.mem_singleton] at ht
            rcases ht with ht | rfl
            · exact ha t ht
            · exact tokS_num hd ht0
        · split at h
          · rename_i hsg
            refine tk_S f _ _ _ _ h ?_
            intro t ht
            rw [List.mem_append, List.mem_singleton] at ht
            rcases ht with ht | rfl
            · exact ha t ht
            · intro q acc rest hr
              obtain ⟨h1, h2, h3⟩ := sign_parts hsg
              exact T_sign h1 h2 h3 hsg
          · cases h
theorem toks_S {l : List UInt8} {ts : List Tok} (h : toks l = .ok ts) : ∀ t ∈ ts, tokS t := by
  unfold toks at h
  split at h
  · cases h
  · exact tk_S _ _ _ _ _ h (fun _ h => by cases h)

/-- What stands ahead of a token. -/
def gapL (g : Int) : List UInt8 := if g = 0 then [32] else if g = 1 then [9] else if g = 2 then [32, 10, 32] else [32, 32]
theorem gapL_blank (g : Int) : ∀ b ∈ gapL g, blankB (b.toNat : Int) = true := by
  unfold gapL
  split
  · decide
  · split
    · decide
    · split <;> decide
theorem gapL_cons (g : Int) : ∃ b r, gapL g = b :: r := by
  unfold gapL
  split
  · exact ⟨_, _, rfl⟩
  · split
    · exact ⟨_, _, rfl⟩
    · split <;> exact ⟨_, _, rfl⟩
theorem gapL_len (g : Int) : (gapL g).length ≤ 3 := by
  unfold gapL
  split
  · decide
  · split
    · decide
    · split <;> decide
/-- The texts of tokens, a gap ahead of each; G i: which gap stands ahead of token i. -/
def spread (G : Nat → Int) : Nat → List Tok → List UInt8
  | _, [] => []
  | i, t :: ts => gapL (G i) ++ t.text ++ spread G (i + 1) ts

theorem spread_endB (G : Nat → Int) (i : Nat) (ts : List Tok) : endB (spread G i ts ++ [10]) := by
  cases ts with
  | nil => intro b r e; cases e; decide
  | cons t ts =>
    intro b r e
    obtain ⟨c, r2, hg⟩ := gapL_cons (G i)
    have hb := gapL_blank (G i) c (by rw [hg]; exact List.mem_cons_self ..)
    simp only [spread, hg, List.cons_append] at e
    obtain rfl := (List.cons.inj e).1
    exact hb
theorem T_spread (G : Nat → Int) : ∀ (ts : List Tok) (i p : Nat) (acc : List Tok), (∀ t ∈ ts, tokS t) → ∃ ts' : List Tok, T p (spread G i ts ++ [10]) acc = .ok (acc ++ ts') ∧ ts'.map strip = ts.map strip
  | [], i, p, acc, _ => ⟨[], by
      have := T_blanks (l := []) (acc := acc) [10] p (fun b hb => by rw [List.mem_singleton] at hb; subst hb; decide)
      simp only [spread, List.nil_append] at this ⊢
      rw [List.append_nil] at this
      rw [this, List.append_nil]; exact tk_nil _ _ _, rfl⟩
  | t :: ts, i, p, acc, h => by
    obtain ⟨ts', h1, h2⟩ := T_spread G ts (i + 1) (p + (gapL (G i)).length + t.text.length) (acc ++ [⟨t.kind, t.text, t.n, p + (gapL (G i)).length⟩]) (fun t ht => h t (List.mem_cons_of_mem _ ht))
    refine ⟨⟨t.kind, t.text, t.n, p + (gapL (G i)).length⟩ :: ts', ?_, by simp only [List.map_cons, h2]; rfl⟩
    simp only [spread, List.append_assoc]
    rw [T_blanks _ _ (gapL_blank _), h t (List.mem_cons_self ..) _ _ _ (spread_endB G (i + 1) ts), h1]
    simp
theorem spread_snoc (G : Nat → Int) : ∀ (ts : List Tok) (i : Nat) (t : Tok), spread G i (ts ++ [t]) = spread G i ts ++ (gapL (G (i + ts.length)) ++ t.text)
  | [], i, t => by simp [spread]
  | a :: ts, i, t => by
    simp only [List.cons_append, spread, spread_snoc G ts (i + 1) t, List.length_cons, List.append_assoc]
    rw [show i + 1 + ts.length = i + (ts.length + 1) by omega]

def textLen : List Tok → Nat
  | [] => 0
  | t :: ts => t.text.length + textLen ts
theorem textLen_snoc (ts : List Tok) (t : Tok) : textLen (ts ++ [t]) = textLen ts + t.text.length := by
  induction ts with
  | nil => simp [textLen]
  | cons a l ih => simp only [List.cons_append, textLen, ih]; omega
theorem spread_len (G : Nat → Int) : ∀ (ts : List Tok) (i : Nat), (spread G i ts).length ≤ 3 * ts.length + textLen ts
  | [], _ => by simp [spread]
  | t :: ts, i => by
    have := spread_len G ts (i + 1)
    have := gapL_len (G i)
    simp only [spread, List.length_append, textLen, List.length_cons]; omega
theorem textLen_take (ts : List Tok) (k : Nat) : textLen (ts.take k) ≤ textLen ts := by
  induction ts generalizing k with
  | nil => simp
  | cons a l ih => cases k with
    | zero => simp [textLen]
    | succ k => simp only [List.take_succ_cons, textLen]; have := ih k; omega
theorem tk_text : ∀ (f p : Nat) (l : List UInt8) (acc ts : List Tok), tk f p l acc = .ok ts → textLen ts ≤ textLen acc + l.length
  | _, _, [], acc, ts, h => by rw [tk_nil] at h; cases h; omega
  | 0, _, b :: l, acc, ts, h => by simp only [tk] at h; cases h; omega
  | f + 1, p, b :: l, acc, ts, h => by
    simp only [List.length_cons]
    rw [tk] at h
    split at h
    · have := tk_text f _ _ _ _ h; omega
    · split at h
      · split at h
        · cases h
        · have := tk_text f _ _ _ _ h
          have hle := runLen_le nameB (b :: l)
          have ht := runLen_take_len nameB (b :: l)
          rw [textLen_snoc, List.length_drop] at this
          simp only [List.length_cons, ht] at this hle
          omega
      · split at h
        · split at h
          · cases h
          · rename_i t0 ht0
            have := tk_text f _ _ _ _ h
            have hle := runLen_le digitB (b :: l)
            have ht := runLen_take_len digitB (b :: l)
            rw [textLen_snoc, List.length_drop, numTok_ok ht0] at this
            simp only [List.length_cons, ht] at this hle
            omega
        · split at h
          · have := tk_text f _ _ _ _ h
            rw [textLen_snoc] at this
            simp only [List.length_cons, List.length_nil] at this; omega
          · cases h
theorem toks_text {l : List UInt8} {ts : List Tok} (h : toks l = .ok ts) : textLen ts ≤ l.length := by
  unfold toks at h
  split at h
  · cases h
  · have := tk_text _ _ _ _ _ h; simpa [textLen] using this

theorem toks_spread {s : List UInt8} {ts : List Tok} (G : Nat → Int) (h : toks s = .ok ts) (hl : s.length ≤ 3000) : ∃ ts', toks (spread G 0 ts ++ [10]) = .ok ts' ∧ ts'.map strip = ts.map strip := by
  obtain ⟨ts', h1, h2⟩ := T_spread G ts 0 0 [] (toks_S h)
  refine ⟨ts', ?_, h2⟩
  have := spread_len G ts 0
  have := toks_text h
  have := (toks_len h).1
  unfold toks
  rw [if_neg (by simp only [List.length_append, List.length_cons, List.length_nil]; omega)]
  exact h1

/-! ### What is parsed does not see the places -/

def LRS : LR → LR → Prop
  | .ok zs l, .ok zs' l' => zs' = zs ∧ l'.map strip = l.map strip
  | .err c l, .err c' l' => c' = c ∧ l'.map strip = l.map strip
  | _, _ => False
def RS : PR → PR → Prop
  | .ok xs n l, .ok xs' n' l' => xs' = xs ∧ n' = n ∧ l'.map strip = l.map strip
  | .err c l, .err c' l' => c' = c ∧ l'.map strip = l.map strip
  | _, _ => False
theorem strip_eq {t t' : Tok} (h : strip t' = strip t) : t'.kind = t.kind ∧ t'.text = t.text ∧ t'.n = t.n := by
  simp only [strip, Prod.mk.injEq] at h; exact h
theorem isS_eq {t t' : Tok} (h : strip t' = strip t) (c : UInt8) : isS t' c = isS t c := by
  obtain ⟨h1, h2, _⟩ := strip_eq h
  unfold isS; rw [h1, h2]
theorem map_nil_eq {l' : List Tok} (h : l'.map strip = ([] : List Tok).map strip) : l' = [] := List.map_eq_nil_iff.1 h
theorem map_cons_eq {l' : List Tok} {t : Tok} {r : List Tok} (h : l'.map strip = (t :: r).map strip) : ∃ t' r', l' = t' :: r' ∧ strip t' = strip t ∧ r'.map strip = r.map strip := map_cons_inv h
theorem isT_eq {l l' : List Tok} (h : l'.map strip = l.map strip) (c : UInt8) : isT c l' = isT c l := by
  cases l with
  | nil => rw [map_nil_eq h]
  | cons t r => obtain ⟨t', r', rfl, h1, _⟩ := map_cons_eq h; exact isS_eq h1 c
theorem kindT_eq {l l' : List Tok} (h : l'.map strip = l.map strip) : kindT l' = kindT l := by
  cases l with
  | nil => rw [map_nil_eq h]
  | cons t r => obtain ⟨t', r', rfl, h1, _⟩ := map_cons_eq h; exact (strip_eq h1).1
theorem begins_eq {l l' : List Tok} (h : l'.map strip = l.map strip) : begins l' = begins l := by
  unfold begins; rw [isT_eq h, kindT_eq h]
theorem tail_eq {l l' : List Tok} (h : l'.map strip = l.map strip) : l'.tail.map strip = l.tail.map strip := by
  rw [List.map_tail, List.map_tail, h]
theorem sepT_eq {acc : List Ex} {l l' : List Tok} (h : l'.map strip = l.map strip) : (sepT acc l = none → sepT acc l' = none) ∧ ∀ l1, sepT acc l = some l1 → ∃ l1', sepT acc l' = some l1' ∧ l1'.map strip = l1.map strip := by
  unfold sepT
  rw [isT_eq h]
  split
  · exact ⟨(fun h => by cases h), fun l1 e => by cases e; exact ⟨l', rfl, h⟩⟩
  · split
    · exact ⟨(fun h => by cases h), fun l1 e => by cases e; exact ⟨_, rfl, tail_eq h⟩⟩
    · exact ⟨fun _ => rfl, fun l1 e => by cases e⟩
theorem pNums_eq : ∀ (l l' : List Tok) (acc : List Int), l'.map strip = l.map strip → LRS (pNums acc l) (pNums acc l')
  | [], l', acc, h => by rw [map_nil_eq h]; exact ⟨rfl, rfl⟩
  | [t], l', acc, h => by
    obtain ⟨t', r', rfl, h1, h2⟩ := map_cons_eq h
    obtain rfl := map_nil_eq h2
    obtain ⟨e1, _, _⟩ := strip_eq h1
    simp only [pNums, e1]
    split
    · exact ⟨rfl, h⟩
    · split
      · exact ⟨rfl, h⟩
      · exact ⟨rfl, rfl⟩
  | t :: c :: r, l', acc, h => by
    obtain ⟨t', r', rfl, h1, h2⟩ := map_cons_eq h
    obtain ⟨c', r2, rfl, h3, h4⟩ := map_cons_eq h2
    obtain ⟨e1, _, e3⟩ := strip_eq h1
    rw [pNums.eq_def, pNums.eq_def acc (t' :: _)]
    simp only [e1, e3, isS_eq h3]
    split
    · exact ⟨rfl, h⟩
    · split
      · exact ⟨rfl, h⟩
      · split
        · exact ⟨rfl, h4⟩
        · split
          · exact pNums_eq r r2 _ h4
          · exact ⟨rfl, h2⟩
theorem pList_eq {l l' : List Tok} (h : l'.map strip = l.map strip) : LRS (pList l) (pList l') := by
  unfold pList
  rw [isT_eq h]
  split
  · exact ⟨rfl, tail_eq h⟩
  · exact pNums_eq _ _ _ h

theorem PX.strips {m : Option (List Ex)} {d n : Nat} {l : List Tok} {r : PR} (h : PX m d n l r) : ∀ l', l'.map strip = l.map strip → ∃ r', PX m d n l' r' ∧ RS r r' := by
  induction h with
  | bad hb => intro l' hl; exact ⟨_, .bad (by rw [begins_eq hl]; exact hb), rfl, hl⟩
  | deep hb hd => intro l' hl; exact ⟨_, .deep (by rw [begins_eq hl]; exact hb) hd, rfl, hl⟩
  | num hk hd hn =>
    intro l' hl
    obtain ⟨t', r', rfl, h1, h2⟩ := map_cons_eq hl
    obtain ⟨e1, _, e3⟩ := strip_eq h1
    exact ⟨_, .num (by rw [e1]; exact hk) hd hn, by rw [e3], rfl, h2⟩
  | list hk hd hn hp =>
    intro l' hl
    obtain ⟨t', r', rfl, h1, h2⟩ := map_cons_eq hl
    have hq := pList_eq h2
    rw [hp] at hq
    cases hp' : pList r' with
    | ok zs' l2' => rw [hp'] at hq; obtain ⟨rfl, h3⟩ := hq; exact ⟨_, .list (by rw [isS_eq h1]; exact hk) hd hn hp', rfl, rfl, h3⟩
    | err c' l2' => rw [hp'] at hq; exact hq.elim
  | listErr hk hd hn hp =>
    intro l' hl
    obtain ⟨t', r', rfl, h1, h2⟩ := map_cons_eq hl
    have hq := pList_eq h2
    rw [hp] at hq
    cases hp' : pList r' with
    | ok zs' l2' => rw [hp'] at hq; exact hq.elim
    | err c' l2' => rw [hp'] at hq; obtain ⟨rfl, h3⟩ := hq; exact ⟨_, .listErr (by rw [isS_eq h1]; exact hk) hd hn hp', rfl, h3⟩
  | name hk hd hn hp =>
    intro l' hl
    obtain ⟨t', r', rfl, h1, h2⟩ := map_cons_eq hl
    obtain ⟨e1, e2, _⟩ := strip_eq h1
    exact ⟨_, .name (by rw [e1]; exact hk) hd hn (by rw [isT_eq h2]; exact hp), by rw [e2], rfl, h2⟩
  | call hk hd hn hp h ih =>
    intro l' hl
    obtain ⟨t', r', rfl, h1, h2⟩ := map_cons_eq hl
    obtain ⟨p', r2, rfl, h3, h4⟩ := map_cons_eq h2
    obtain ⟨e1, e2, _⟩ := strip_eq h1
    obtain ⟨r3, hx, hr⟩ := ih r2 h4
    cases r3 with
    | ok ag' n' l2' => obtain ⟨rfl, rfl, h5⟩ := hr; exact ⟨_, .call (by rw [e1]; exact hk) hd hn (by rw [isS_eq h3]; exact hp) hx, by rw [e2], rfl, h5⟩
    | err c' l2' => exact hr.elim
  | callErr hk hd hn hp h ih =>
    intro l' hl
    obtain ⟨t', r', rfl, h1, h2⟩ := map_cons_eq hl
    obtain ⟨p', r2, rfl, h3, h4⟩ := map_cons_eq h2
    obtain ⟨e1, e2, _⟩ := strip_eq h1
    obtain ⟨r3, hx, hr⟩ := ih r2 h4
    cases r3 with
    | ok ag' n' l2' => exact hr.elim
    | err c' l2' => obtain ⟨rfl, h5⟩ := hr; exact ⟨_, .callErr (by rw [e1]; exact hk) hd hn (by rw [isS_eq h3]; exact hp) hx, rfl, h5⟩
  | done ht =>
    intro l' hl
    obtain ⟨t', r', rfl, h1, h2⟩ := map_cons_eq hl
    exact ⟨_, .done (by rw [isS_eq h1]; exact ht), rfl, rfl, h2⟩
  | sep ht hs =>
    intro l' hl
    exact ⟨_, .sep (by rw [isT_eq hl]; exact ht) ((sepT_eq hl).1 hs), rfl, hl⟩
  | arg ht hs hx h ih1 ih2 =>
    intro l' hl
    obtain ⟨l1', hs', h1⟩ := (sepT_eq hl).2 _ hs
    obtain ⟨r1, hx1, hr1⟩ := ih1 l1' h1
    cases r1 with
    | ok xs' n' l2' =>
      obtain ⟨rfl, rfl, h5⟩ := hr1
      obtain ⟨r2, hx2, hr2⟩ := ih2 l2' h5
      exact ⟨r2, .arg (by rw [isT_eq hl]; exact ht) hs' hx1 hx2, hr2⟩
    | err c' l2' => exact hr1.elim
  | argErr ht hs hx ih =>
    intro l' hl
    obtain ⟨l1', hs', h1⟩ := (sepT_eq hl).2 _ hs
    obtain ⟨r1, hx1, hr1⟩ := ih l1' h1
    cases r1 with
    | ok xs' n' l2' => exact hr1.elim
    | err c' l2' => obtain ⟨rfl, h5⟩ := hr1; exact ⟨_, .argErr (by rw [isT_eq hl]; exact ht) hs' hx1, rfl, h5⟩

theorem PT_strips {s s' : List UInt8} {ts ts' : List Tok} {ox : Option Ex} {c : Int} {p : Nat} (h : PT s (ox, c, p)) (ht : toks s = .ok ts) (ht' : toks s' = .ok ts') (hm : ts'.map strip = ts.map strip) : ∃ p', PT s' (ox, c, p') := by
  cases h with
  | scan h => rw [ht] at h; cases h
  | err h hx =>
    rw [ht] at h; cases h
    obtain ⟨r, hx', hr⟩ := PX.strips hx ts' hm
    cases r with
    | ok xs n l => exact hr.elim
    | err c' l' => obtain ⟨rfl, _⟩ := hr; exact ⟨_, .err ht' hx'⟩
  | more h hx =>
    rw [ht] at h; cases h
    obtain ⟨r, hx', hr⟩ := PX.strips hx ts' hm
    cases r with
    | ok xs n l =>
      obtain ⟨rfl, rfl, h5⟩ := hr
      obtain ⟨t', r', rfl, _, _⟩ := map_cons_eq h5
      exact ⟨_, .more ht' hx'⟩
    | err c' l' => exact hr.elim
  | ok h hx =>
    rw [ht] at h; cases h
    obtain ⟨r, hx', hr⟩ := PX.strips hx ts' hm
    cases r with
    | ok xs n l =>
      obtain ⟨rfl, rfl, h5⟩ := hr
      obtain rfl := map_nil_eq h5
      exact ⟨_, .ok ht' hx'⟩
    | err c' l' => exact hr.elim
end Go.Proofs.YtcaaadhhaanbcaaDoor
