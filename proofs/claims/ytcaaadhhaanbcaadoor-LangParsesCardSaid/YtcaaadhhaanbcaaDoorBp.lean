/- Plain: what a scan gives is well-formed; what is parsed has the form, and is within the bounds; an error stands at a token, or at the end. -/
import Derived.Test.YtcaaadhhaanbcaaDoorBq
namespace Go.Proofs.YtcaaadhhaanbcaaDoor
open Go.RowKit

/-- A token as the scan makes it, its place below e. -/
def tokOk (e : Nat) (t : Tok) : Prop := (t.kind = 1 → isNam t.text = true) ∧ (t.kind = 2 → isNum t.n = true) ∧ t.pos < e

theorem runLen_take (p : Int → Bool) : ∀ l : List UInt8, runLen p (l.take (runLen p l)) = runLen p l
  | [] => rfl
  | b :: l => by
    by_cases hb : p (b.toNat : Int) = true
    · have e : runLen p (b :: l) = runLen p l + 1 := by simp [runLen, hb]
      rw [e, List.take_succ_cons]
      simp only [runLen, hb, if_true]
      rw [runLen_take p l]
    · have e : runLen p (b :: l) = 0 := by simp [runLen, hb]
      rw [e]; rfl
theorem isNam_take {b : UInt8} {l : List UInt8} (hl : letterB (b.toNat : Int) = true) (hn : ¬ 16 < runLen nameB (b :: l)) : isNam ((b :: l).take (runLen nameB (b :: l))) = true := by
  have e : runLen nameB (b :: l) = runLen nameB l + 1 := by simp [runLen, letter_name hl]
  have ht := runLen_take nameB (b :: l)
  have hle := runLen_le nameB (b :: l)
  have hlen : ((b :: l).take (runLen nameB (b :: l))).length = runLen nameB (b :: l) := by rw [List.length_take]; omega
  rw [e] at ht hlen hn ⊢
  rw [List.take_succ_cons] at ht hlen ⊢
  simp only [isNam]
  rw [hlen, ht, hl]
  simp; omega
theorem numV_bound : ∀ (l : List UInt8) (acc v : Int), (∀ b ∈ l, digitB (b.toNat : Int) = true) → 0 ≤ acc → acc ≤ 9999999 → numV l acc = some v → 0 ≤ v ∧ v ≤ 9999999
  | [], acc, v, _, h0, h1, h => by simp only [numV, Option.some.injEq] at h; omega
  | b :: l, acc, v, hd, h0, h1, h => by
    simp only [numV] at h
    split at h
    · cases h
    · have hb := hd b (List.mem_cons_self ..)
      simp only [digitB, Bool.and_eq_true, decide_eq_true_eq] at hb
      exact numV_bound l _ v (fun c hc => hd c (List.mem_cons_of_mem _ hc)) (by omega) (by omega) h
theorem take_run_all (p : Int → Bool) : ∀ (l : List UInt8), ∀ b ∈ l.take (runLen p l), p (b.toNat : Int) = true
  | [], b, h => by simp at h
  | c :: l, b, h => by
    by_cases hc : p (c.toNat : Int) = true
    · have e : runLen p (c :: l) = runLen p l + 1 := by simp [runLen, hc]
      rw [e, List.take_succ_cons, List.mem_cons] at h
      rcases h with rfl | h
      · exact hc
      · exact take_run_all p l b h
    · have e : runLen p (c :: l) = 0 := by simp [runLen, hc]
      rw [e] at h; simp at h
theorem numTok_num {l : List UInt8} {p : Nat} {t : Tok} (h : numTok l p = .ok t) : t.kind = 2 ∧ isNum t.n = true ∧ t.pos = p := by
  unfold numTok at h
  split at h
  · cases h
  · split at h
    · cases h
    · rename_i v hv
      cases h
      have := numV_bound _ 0 v (take_run_all digitB l) (by omega) (by omega) hv
      exact ⟨rfl, by simp [isNum]; omega, rfl⟩
theorem numTok_bad {l : List UInt8} {p q : Nat} {c : Int} (h : numTok l p = .err c q) : c ≠ 0 ∧ q = p := by
  unfold numTok at h
  split at h
  · cases h; exact ⟨by decide, rfl⟩
  · split at h
    · cases h; exact ⟨by decide, rfl⟩
    · cases h

theorem tk_ok : ∀ (f p : Nat) (l : List UInt8) (acc ts : List Tok) (e : Nat), tk f p l acc = .ok ts → p + l.length ≤ e → (∀ t ∈ acc, tokOk e t) → ∀ t ∈ ts, tokOk e t
  | _, _, [], acc, ts, e, h, _, ha => by rw [tk_nil] at h; cases h; exact ha
  | 0, _, b :: l, acc, ts, e, h, _, ha => by simp only [tk] at h; cases h; exact ha
  | f + 1, p, b :: l, acc, ts, e, h, he, ha => by
    simp only [List.length_cons] at he
    rw [tk] at h
    split at h
    · exact tk_ok f _ _ _ _ e h (by omega) ha
    · split at h
      · rename_i hl
        split at h
        · cases h
        · rename_i h16
          refine tk_ok f _ _ _ _ e h ?_ ?_
          · have := runLen_le nameB (b :: l)
            simp only [List.length_cons] at this
            simp; omega
          · intro t ht
            rw [List.mem_append, List.mem_singleton] at ht
            rcases ht with ht | rfl
            · exact ha t ht
            · exact ⟨fun _ => isNam_take hl h16, fun h => absurd (show (1 : Int) = 2 from h) (by decide), show p < e by omega⟩
      · split at h
        · split at h
          · cases h
          · rename_i t0 ht0
            obtain ⟨h1, h2, h3⟩ := numTok_num ht0
            refine tk_ok f _ _ _ _ e h ?_ ?_
            · have := runLen_le digitB (b :: l)
              simp only [List.length_cons] at this
              simp; omega
            · intro t ht
              rw [List.mem_append, List.mem_singleton] at ht
              rcases ht with ht | rfl
              · exact ha t ht
              · exact ⟨fun h => absurd (h1.symm.trans h) (by decide), fun _ => h2, by rw [h3]; omega⟩
        · split at h
          · refine tk_ok f _ _ _ _ e h (by omega) ?_
            intro t ht
            rw [List.mem_append, List.mem_singleton] at ht
            rcases ht with ht | rfl
            · exact ha t ht
            · exact ⟨fun h => absurd (show (3 : Int) = 1 from h) (by decide), fun h => absurd (show (3 : Int) = 2 from h) (by decide), show p < e by omega⟩
          · cases h
theorem tk_errs : ∀ (f p : Nat) (l : List UInt8) (acc : List Tok) (c : Int) (q : Nat), tk f p l acc = .err c q → c ≠ 0 ∧ q ≤ p + l.length
  | _, _, [], acc, c, q, h => by rw [tk_nil] at h; cases h
  | 0, _, b :: l, acc, c, q, h => by simp only [tk] at h; cases h
  | f + 1, p, b :: l, acc, c, q, h => by
    simp only [List.length_cons]
    rw [tk] at h
    split at h
    · have := tk_errs f _ _ _ _ _ h; omega
    · split at h
      · split at h
        · cases h; exact ⟨by decide, by omega⟩
        · have := tk_errs f _ _ _ _ _ h
          have hle := runLen_le nameB (b :: l)
          simp at this hle; omega
      · split at h
        · split at h
          · rename_i hh
            cases h
            obtain ⟨h1, h2⟩ := numTok_bad hh
            exact ⟨h1, by omega⟩
          · have := tk_errs f _ _ _ _ _ h
            have hle := runLen_le digitB (b :: l)
            simp at this hle; omega
        · split at h
          · have := tk_errs f _ _ _ _ _ h; omega
          · cases h; exact ⟨by decide, by omega⟩
theorem toks_ok {l : List UInt8} {ts : List Tok} (h : toks l = .ok ts) : ∀ t ∈ ts, tokOk l.length t := by
  unfold toks at h
  split at h
  · cases h
  · exact tk_ok _ _ _ _ _ _ h (by omega) (fun _ h => by cases h)
theorem toks_bad {l : List UInt8} {c : Int} {q : Nat} (h : toks l = .err c q) : c ≠ 0 ∧ q ≤ l.length := by
  unfold toks at h
  split at h
  · cases h; exact ⟨by decide, by omega⟩
  · have := tk_errs _ _ _ _ _ _ h; omega

theorem pNums_good : ∀ (l : List Tok) (acc zs : List Int) (l2 : List Tok) (e : Nat), pNums acc l = .ok zs l2 → (∀ t ∈ l, tokOk e t) → (∀ z ∈ acc, isNum z = true) → acc.length ≤ 4096 → (∀ z ∈ zs, isNum z = true) ∧ zs.length ≤ 4096 ∧ ∃ p, l = p ++ l2
  | [], acc, zs, l2, e, h, _, _, _ => by simp [pNums] at h
  | [t], acc, zs, l2, e, h, _, _, _ => by
    simp only [pNums] at h
    split at h
    · cases h
    · split at h <;> cases h
  | t :: c :: r, acc, zs, l2, e, h, ht, ha, hl => by
    have htok := ht t (List.mem_cons_self ..)
    rw [pNums.eq_def] at h
    simp only [] at h
    split at h
    · cases h
    · rename_i hk
      have hk2 : t.kind = 2 := Classical.byContradiction fun h => hk h
      have hz := htok.2.1 hk2
      split at h
      · cases h
      · have ha2 : ∀ z ∈ acc ++ [t.n], isNum z = true := fun z hzz => by
          rw [List.mem_append, List.mem_singleton] at hzz
          rcases hzz with h | rfl
          · exact ha z h
          · exact hz
        split at h
        · cases h
          exact ⟨ha2, by simp; omega, [t, c], rfl⟩
        · split at h
          · obtain ⟨q1, q2, p, hp⟩ := pNums_good r (acc ++ [t.n]) zs l2 e h (fun t ht2 => ht t (by simp [ht2])) ha2 (by simp; omega)
            exact ⟨q1, q2, t :: c :: p, by rw [hp]; rfl⟩
          · cases h
theorem pNums_err : ∀ (l : List Tok) (acc : List Int) (c : Int) (l2 : List Tok), pNums acc l = .err c l2 → c ≠ 0 ∧ ∃ p, l = p ++ l2
  | [], acc, c, l2, h => by simp [pNums] at h; obtain ⟨rfl, rfl⟩ := h; exact ⟨by decide, [], rfl⟩
  | [t], acc, c, l2, h => by
    simp only [pNums] at h
    split at h
    · cases h; exact ⟨by decide, [], rfl⟩
    · split at h <;> cases h
      · exact ⟨by decide, [], rfl⟩
      · exact ⟨by decide, [t], rfl⟩
  | t :: s :: r, acc, c, l2, h => by
    rw [pNums.eq_def] at h
    simp only [] at h
    split at h
    · cases h; exact ⟨by decide, [], rfl⟩
    · split at h
      · cases h; exact ⟨by decide, [], rfl⟩
      · split at h
        · cases h
        · split at h
          · obtain ⟨h1, p, hp⟩ := pNums_err r _ _ _ h
            exact ⟨h1, t :: s :: p, by rw [hp]; rfl⟩
          · cases h; exact ⟨by decide, [t], rfl⟩
theorem pList_good {l : List Tok} {zs : List Int} {l2 : List Tok} {e : Nat} (h : pList l = .ok zs l2) (ht : ∀ t ∈ l, tokOk e t) : (∀ z ∈ zs, isNum z = true) ∧ zs.length ≤ 4096 ∧ ∃ p, l = p ++ l2 := by
  unfold pList at h
  split at h
  · cases h
    refine ⟨(fun _ h => by cases h), by simp, ?_⟩
    cases l with
    | nil => exact ⟨[], rfl⟩
    | cons a r => exact ⟨[a], rfl⟩
  · exact pNums_good _ _ _ _ _ h ht (fun _ h => by cases h) (by simp)
theorem pList_err {l : List Tok} {c : Int} {l2 : List Tok} (h : pList l = .err c l2) : c ≠ 0 ∧ ∃ p, l = p ++ l2 := by
  unfold pList at h
  split at h
  · cases h
  · exact pNums_err _ _ _ _ h

def good (d : Nat) (x : Ex) : Prop := formB x = true ∧ listsB x = true ∧ depthX x + d ≤ 33
theorem good_list {d : Nat} {xs : List Ex} (h : ∀ y ∈ xs, good d y) : formBL xs = true ∧ listsL xs = true ∧ (depthL xs + d ≤ 33 ∨ xs = []) := by
  induction xs with
  | nil => exact ⟨by simp [formBL], by simp [listsL], .inr rfl⟩
  | cons a l ih =>
    obtain ⟨h1, h2, h3⟩ := h a (List.mem_cons_self ..)
    obtain ⟨i1, i2, i3⟩ := ih (fun y hy => h y (List.mem_cons_of_mem _ hy))
    refine ⟨by simp [formBL, h1, i1], by simp [listsL, h2, i2], .inl ?_⟩
    simp only [depthL]
    rcases i3 with i3 | rfl
    · omega
    · simp only [depthL]; omega

theorem sepT_sub {acc : List Ex} {l l1 : List Tok} (h : sepT acc l = some l1) : ∃ p, l = p ++ l1 := by
  unfold sepT at h
  split at h
  · cases h; exact ⟨[], rfl⟩
  · split at h
    · cases h
      cases l with
      | nil => exact ⟨[], rfl⟩
      | cons a r => exact ⟨[a], rfl⟩
    · cases h

/-- What is parsed: good, and so many nodes. -/
theorem PX.good {m : Option (List Ex)} {d n : Nat} {l : List Tok} {r : PR} (h : PX m d n l r) : ∀ e, (∀ t ∈ l, tokOk e t) → n ≤ 1024 → ∀ xs n2 l2, r = .ok xs n2 l2 →
    n2 ≤ 1024 ∧ (∃ p, l = p ++ l2) ∧ match m with
      | none => ∃ x, xs = [x] ∧ YtcaaadhhaanbcaaDoor.good d x ∧ n2 = n + nodes x
      | some acc => d ≤ 32 → ∃ ys, xs = acc ++ ys ∧ (∀ y ∈ ys, YtcaaadhhaanbcaaDoor.good (d + 1) y) ∧ n2 = n + nodesL ys := by
  induction h with
  | bad _ => intro _ _ _ _ _ _ e; cases e
  | deep _ _ => intro _ _ _ _ _ _ e; cases e
  | @num d n t l hk hd hn =>
    intro e ht hn0 _ _ _ he; cases he
    have := (ht t (List.mem_cons_self ..)).2.1 hk
    exact ⟨by omega, ⟨[t], rfl⟩, _, rfl, ⟨by simp [formB, formBL, nodeB_mk, this], by simp [listsB, listsL], by simp [depthX, depthL]; omega⟩, by simp [nodes, nodesL]⟩
  | @list d n t l l2 zs hk hd hn hl =>
    intro e ht hn0 _ _ _ he; cases he
    obtain ⟨h1, h2, p, hp⟩ := pList_good hl (fun t h => ht t (List.mem_cons_of_mem _ h))
    exact ⟨by omega, ⟨t :: p, by rw [hp]; rfl⟩, _, rfl, ⟨by simp [formB, formBL, nodeB_mk, List.all_eq_true]; exact h1, by simp [listsB, listsL, h2], by simp [depthX, depthL]; omega⟩, by simp [nodes, nodesL]⟩
  | listErr _ _ _ _ => intro _ _ _ _ _ _ e; cases e
  | @name d n t l hk hd hn hp =>
    intro e ht hn0 _ _ _ he; cases he
    have := (ht t (List.mem_cons_self ..)).1 hk
    exact ⟨by omega, ⟨[t], rfl⟩, _, rfl, ⟨by simp [formB, formBL, nodeB_mk, this], by simp [listsB, listsL], by simp [depthX, depthL]; omega⟩, by simp [nodes, nodesL]⟩
  | @call d n n2 t p l l2 ag hk hd hn hp h ih =>
    intro e ht hn0 _ _ _ he; cases he
    have hnam := (ht t (List.mem_cons_self ..)).1 hk
    obtain ⟨q1, ⟨p2, hp2⟩, q3⟩ := ih e (fun t h => ht t (List.mem_cons_of_mem _ (List.mem_cons_of_mem _ h))) (by omega) _ _ _ rfl
    obtain ⟨ys, hys, hg, hnn⟩ := q3 hd
    simp only [List.nil_append] at hys
    subst hys
    obtain ⟨g1, g2, g3⟩ := good_list hg
    refine ⟨q1, ⟨t :: p :: p2, by rw [hp2]; rfl⟩, _, rfl, ⟨by simp [formB, nodeB_mk, hnam, g1], by simp [listsB, g2], ?_⟩, by simp only [nodes]; omega⟩
    simp only [depthX]
    rcases g3 with g3 | rfl
    · omega
    · simp only [depthL]; omega
  | callErr _ _ _ _ _ _ => intro _ _ _ _ _ _ e; cases e
  | @done d n acc t l ht1 =>
    intro e ht hn0 _ _ _ he; cases he
    exact ⟨hn0, ⟨[t], rfl⟩, fun _ => ⟨[], by simp, (fun _ h => by cases h), by simp [nodesL]⟩⟩
  | sep _ _ => intro _ _ _ _ _ _ e; cases e
  | @arg d n n2 acc x l l1 l2 r ht1 hs hx h ih1 ih2 =>
    intro e ht hn0 xs n3 l3 he
    obtain ⟨p, hp⟩ := sepT_sub hs
    have ht2 : ∀ t ∈ l1, tokOk e t := fun t h => ht t (by rw [hp]; simp [h])
    obtain ⟨q1, ⟨p2, hp2⟩, y, hy, hg, hnn⟩ := ih1 e ht2 hn0 _ _ _ rfl
    obtain rfl : x = y := (List.cons.inj hy).1
    obtain ⟨r1, ⟨p3, hp3⟩, r3⟩ := ih2 e (fun t h => ht2 t (by rw [hp2]; simp [h])) q1 xs n3 l3 he
    refine ⟨r1, ⟨p ++ p2 ++ p3, by rw [hp, hp2, hp3]; simp⟩, fun hd => ?_⟩
    obtain ⟨ys, hys, hgs, hns⟩ := r3 hd
    refine ⟨x :: ys, by rw [hys]; simp, fun z hz => ?_, by simp only [nodesL]; omega⟩
    rw [List.mem_cons] at hz
    rcases hz with rfl | hz
    · exact hg
    · exact hgs z hz
  | argErr _ _ _ _ => intro _ _ _ _ _ _ e; cases e

/-- An error: not 0, and at a rest of the tokens. -/
theorem PX.errs {m : Option (List Ex)} {d n : Nat} {l : List Tok} {r : PR} (h : PX m d n l r) : ∀ c l2, r = .err c l2 → (∀ e, (∀ t ∈ l, tokOk e t) → n ≤ 1024 → c ≠ 0 ∧ ∃ p, l = p ++ l2) := by
  induction h with
  | bad _ => intro c l2 he; cases he; intro _ _ _; exact ⟨by decide, [], rfl⟩
  | deep _ _ => intro c l2 he; cases he; intro _ _ _; exact ⟨by decide, [], rfl⟩
  | num _ _ _ => intro c l2 he; cases he
  | list _ _ _ _ => intro c l2 he; cases he
  | @listErr d n t l l2 c hk hd hn hl =>
    intro c l2 he; cases he; intro _ _ _
    obtain ⟨h1, p, hp⟩ := pList_err hl
    exact ⟨h1, t :: p, by rw [hp]; rfl⟩
  | name _ _ _ _ => intro c l2 he; cases he
  | call _ _ _ _ _ _ => intro c l2 he; cases he
  | @callErr d n t p l l2 c hk hd hn hp h ih =>
    intro c l2 he; cases he; intro e ht hn0
    obtain ⟨h1, q, hq⟩ := ih _ _ rfl e (fun t h => ht t (List.mem_cons_of_mem _ (List.mem_cons_of_mem _ h))) (by omega)
    exact ⟨h1, t :: p :: q, by rw [hq]; rfl⟩
  | done _ => intro c l2 he; cases he
  | sep _ _ => intro c l2 he; cases he; intro _ _ _; exact ⟨by decide, [], rfl⟩
  | @arg d n n2 acc x l l1 l2 r ht1 hs hx h ih1 ih2 =>
    intro c l3 he e ht hn0
    obtain ⟨p, hp⟩ := sepT_sub hs
    have ht2 : ∀ t ∈ l1, tokOk e t := fun t h => ht t (by rw [hp]; simp [h])
    obtain ⟨q1, ⟨p2, hp2⟩, _⟩ := PX.good hx e ht2 hn0 _ _ _ rfl
    obtain ⟨h1, p3, hp3⟩ := ih2 c l3 he e (fun t h => ht2 t (by rw [hp2]; simp [h])) q1
    exact ⟨h1, p ++ p2 ++ p3, by rw [hp, hp2, hp3]; simp⟩
  | @argErr d n acc l l1 l2 c ht1 hs hx ih =>
    intro c l3 he; cases he; intro e ht hn0
    obtain ⟨p, hp⟩ := sepT_sub hs
    obtain ⟨h1, p3, hp3⟩ := ih _ _ rfl e (fun t h => ht t (by rw [hp]; simp [h])) hn0
    exact ⟨h1, p ++ p3, by rw [hp, hp3]; simp⟩

/-- What is parsed of a text is checked, or too long. -/
theorem PT_good {s : List UInt8} {x : Ex} {c : Int} {p : Nat} (h : PT s (some x, c, p)) : c = 0 ∧ p = 0 ∧ formB x = true ∧ listsB x = true ∧ depthX x ≤ 32 ∧ nodes x ≤ 1024 := by
  cases h with
  | @ok ts _ n ht hx =>
    obtain ⟨h1, _, y, hy, ⟨g1, g2, g3⟩, hn⟩ := PX.good hx _ (toks_ok ht) (by omega) _ _ _ rfl
    obtain rfl : x = y := (List.cons.inj hy).1
    exact ⟨rfl, rfl, g1, g2, by omega, by omega⟩
/-- An error: the scan's, or at a token, or at the end. -/
theorem PT_bad {s : List UInt8} {c : Int} {p : Nat} (h : PT s (none, c, p)) : c ≠ 0 ∧ p ≤ s.length ∧ (toks s = .err c p ∨ ∃ ts, toks s = .ok ts ∧ ((∃ t ∈ ts, t.pos = p) ∨ p = s.length)) := by
  cases h with
  | scan h =>
    obtain ⟨h1, h2⟩ := toks_bad h
    exact ⟨h1, h2, .inl h⟩
  | @err ts l c h hx =>
    obtain ⟨h1, q, hq⟩ := PX.errs hx _ _ rfl _ (toks_ok h) (by omega)
    cases l with
    | nil => exact ⟨h1, Nat.le_refl _, .inr ⟨ts, h, .inr rfl⟩⟩
    | cons t r =>
      have hm : t ∈ ts := by rw [hq]; simp
      have := (toks_ok h t hm).2.2
      exact ⟨h1, show t.pos ≤ s.length by omega, .inr ⟨ts, h, .inl ⟨t, hm, rfl⟩⟩⟩
  | @more ts l x n t h hx =>
    obtain ⟨_, ⟨q, hq⟩, _⟩ := PX.good hx _ (toks_ok h) (by omega) _ _ _ rfl
    have hm : t ∈ ts := by rw [hq]; simp
    have := (toks_ok h t hm).2.2
    exact ⟨by decide, by omega, .inr ⟨ts, h, .inl ⟨t, hm, rfl⟩⟩⟩
end Go.Proofs.YtcaaadhhaanbcaaDoor
