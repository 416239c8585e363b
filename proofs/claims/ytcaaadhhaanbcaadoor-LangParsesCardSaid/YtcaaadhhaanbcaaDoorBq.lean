/- Plain: the tokens of a checked expression are parsed as the expression; what is parsed is of the right form. -/
import Derived.Test.YtcaaadhhaanbcaaDoorBk
import Derived.Test.YtcaaadhhaanbcaaDoorWv
namespace Go.Proofs.YtcaaadhhaanbcaaDoor
open Go.RowKit

theorem map_cons_inv {ts : List Tok} {a : TT} {l : List TT} (h : ts.map strip = a :: l) : ∃ t r, ts = t :: r ∧ strip t = a ∧ r.map strip = l := by
  cases ts with
  | nil => cases h
  | cons t r => exact ⟨t, r, rfl, (List.cons.inj h).1, (List.cons.inj h).2⟩
theorem map_app_inv {ts : List Tok} {a b : List TT} (h : ts.map strip = a ++ b) : ∃ p q, ts = p ++ q ∧ p.map strip = a ∧ q.map strip = b := by
  obtain ⟨p, q, e, h1, h2⟩ := List.map_eq_append_iff.1 h
  exact ⟨p, q, e, h1, h2⟩
theorem strip_isS {t : Tok} {k : Int} {l : List UInt8} {n : Int} (h : strip t = (k, l, n)) (c : UInt8) : isS t c = (k == 3 && l == [c]) := by
  obtain ⟨k', l', n', p⟩ := t
  simp only [strip, Prod.mk.injEq] at h
  obtain ⟨rfl, rfl, rfl⟩ := h
  rfl
theorem strip_kind {t : Tok} {k : Int} {l : List UInt8} {n : Int} (h : strip t = (k, l, n)) : t.kind = k := congrArg (·.1) h
theorem strip_text {t : Tok} {k : Int} {l : List UInt8} {n : Int} (h : strip t = (k, l, n)) : t.text = l := congrArg (·.2.1) h
theorem strip_n {t : Tok} {k : Int} {l : List UInt8} {n : Int} (h : strip t = (k, l, n)) : t.n = n := congrArg (·.2.2) h

theorem pNums_of : ∀ (zs : List Int) (z : Int) (acc : List Int) (ts rest : List Tok), ts.map strip = (2, Lib.itoa z, z) :: (tz zs 1 ++ [sg 93]) → acc.length + zs.length + 1 ≤ 4096 → pNums acc (ts ++ rest) = .ok (acc ++ z :: zs) rest
  | [], z, acc, ts, rest, h, hl => by
    obtain ⟨t, r, rfl, ht, hr⟩ := map_cons_inv h
    simp only [tz, List.nil_append] at hr
    obtain ⟨t2, r2, rfl, ht2, hr2⟩ := map_cons_inv hr
    obtain rfl : r2 = [] := List.map_eq_nil_iff.1 hr2
    simp only [List.cons_append, List.nil_append, pNums]
    rw [if_neg (by rw [strip_kind ht]; decide), if_neg (by simp at hl; omega), strip_isS ht2, if_pos (by decide), strip_n ht]
  | y :: zs, z, acc, ts, rest, h, hl => by
    obtain ⟨t, r, rfl, ht, hr⟩ := map_cons_inv h
    simp only [tz, if_pos (show (0 : Nat) < 1 by decide), List.cons_append, List.nil_append] at hr
    obtain ⟨t2, r2, rfl, ht2, hr2⟩ := map_cons_inv hr
    have hr2' : r2.map strip = (2, Lib.itoa y, y) :: (tz zs 1 ++ [sg 93]) := by
      rw [hr2]; congr 2; exact tz_pos zs 2 1 (by omega) (by omega)
    have ih := pNums_of zs y (acc ++ [z]) r2 rest hr2' (by simp at hl ⊢; omega)
    simp only [List.cons_append]
    rw [pNums.eq_def]
    simp only []
    rw [if_neg (by rw [strip_kind ht]; decide), if_neg (by simp at hl; omega), strip_isS ht2, if_neg (by decide), strip_isS ht2, if_pos (by decide), strip_n ht, ih]
    simp
where
  tz_pos : ∀ (zs : List Int) (i j : Nat), 0 < i → 0 < j → tz zs i = tz zs j
  | [], _, _, _, _ => rfl
  | z :: zs, i, j, hi, hj => by simp only [tz, if_pos hi, if_pos hj]; rw [tz_pos zs (i + 1) (j + 1) (by omega) (by omega)]

theorem pList_of {zs : List Int} {ts rest : List Tok} (h : ts.map strip = tz zs 0 ++ [sg 93]) (hl : zs.length ≤ 4096) : pList (ts ++ rest) = .ok zs rest := by
  cases zs with
  | nil =>
    simp only [tz, List.nil_append] at h
    obtain ⟨t, r, rfl, ht, hr⟩ := map_cons_inv h
    obtain rfl : r = [] := List.map_eq_nil_iff.1 hr
    unfold pList
    rw [if_pos (by show isS t 93 = true; rw [strip_isS ht]; decide)]; rfl
  | cons z zs =>
    simp only [tz, if_neg (Nat.lt_irrefl 0), List.nil_append, List.cons_append] at h
    have h' : ts.map strip = (2, Lib.itoa z, z) :: (tz zs 1 ++ [sg 93]) := h
    have := pNums_of zs z [] ts rest h' (by simp at hl ⊢; omega)
    obtain ⟨t, r, rfl, ht, hr⟩ := map_cons_inv h'
    unfold pList
    rw [if_neg (by show ¬ isS t 93 = true; rw [strip_isS ht]; simp), this]; rfl

/-- The first token of an expression. -/
theorem tx_head (x : Ex) (hf : formB x = true) : ∃ a l, tx x = a :: l ∧ a ≠ sg 41 ∧ a ≠ sg 40 ∧ (a = sg 91 ∨ a.1 = 2 ∨ a.1 = 1) := by
  obtain ⟨k, nm, n, zs, ag⟩ := x
  have hk := formB_eq (.mk k nm n zs ag)
  rw [hf] at hk
  have hnb := (Bool.and_eq_true _ _ ▸ hk.symm).1
  have hkind := nodeB_kind hnb
  simp only [Ex.kind] at hkind
  simp only [tx]
  split
  · exact ⟨_, _, rfl, by simp [sg], by simp [sg], .inr (.inl rfl)⟩
  · split
    · exact ⟨_, _, rfl, by simp [sg], by simp [sg], .inl rfl⟩
    · split
      · exact ⟨_, _, rfl, by simp [sg], by simp [sg], .inr (.inr rfl)⟩
      · split
        · exact ⟨_, _, rfl, by simp [sg], by simp [sg], .inr (.inr rfl)⟩
        · omega

theorem txL_pos : ∀ (xs : List Ex) (i j : Nat), 0 < i → 0 < j → txL xs i = txL xs j
  | [], _, _, _, _ => by simp [txL]
  | x :: xs, i, j, hi, hj => by simp only [txL, if_pos hi, if_pos hj]; rw [txL_pos xs (i + 1) (j + 1) (by omega) (by omega)]

theorem depthX_pos (x : Ex) : 1 ≤ depthX x := by rw [depthX_eq]; omega

mutual
theorem px_of : ∀ (x : Ex), formB x = true → listsB x = true → ∀ (d n : Nat) (ts rest : List Tok), ts.map strip = tx x → d + depthX x ≤ 33 → n + nodes x ≤ 1024 → (x.kind = 4 → isT 40 rest = false) →
    PX none d n (ts ++ rest) (.ok [x] (n + nodes x) rest)
  | .mk k nm n zs ag, hf, hls, d, m, ts, rest, hts, hd, hn, h40 => by
    have hkf := hf
    rw [formB_eq, Bool.and_eq_true] at hkf
    obtain ⟨hnb, hfl⟩ := hkf
    have hkind := nodeB_kind hnb
    rw [listsB_eq, Bool.and_eq_true, decide_eq_true_eq] at hls
    obtain ⟨hl4, hll⟩ := hls
    simp only [Ex.list, Ex.args, Ex.kind] at hl4 hll hfl hkind h40
    have hnp := nodes_pos (.mk k nm n zs ag)
    have hdp := depthX_pos (.mk k nm n zs ag)
    have hdl : d ≤ 32 := by omega
    have hnn : m ≠ 1024 := by omega
    rw [nodeB_mk, Bool.and_eq_true] at hnb
    have hnb2 := hnb.2
    simp only [tx] at hts
    by_cases k1 : k = 1
    · subst k1
      simp at hnb2 hts
      obtain ⟨⟨⟨_, rfl⟩, rfl⟩, rfl⟩ := hnb2
      obtain ⟨t, rfl, ht⟩ : ∃ t, ts = [t] ∧ strip t = (2, Lib.itoa n, n) := hts
      have := PX.num (d := d) (n := m) (l := rest) (strip_kind ht) hdl hnn
      rw [strip_n ht] at this
      simpa [nodes, nodesL] using this
    · by_cases k2 : k = 2
      · subst k2
        simp at hnb2 hts
        obtain ⟨⟨rfl, rfl⟩, rfl⟩ := hnb2
        obtain ⟨t, r, rfl, ht, hr⟩ := map_cons_inv (a := sg 91) (l := tz zs 0 ++ [sg 93]) (by simpa using hts)
        have := PX.list (d := d) (n := m) (t := t) (l := r ++ rest) (by rw [strip_isS ht]; decide) hdl hnn (pList_of hr hl4)
        simpa [nodes, nodesL] using this
      · by_cases k4 : k = 4
        · subst k4
          simp at hnb2 hts
          obtain ⟨⟨⟨rfl, _⟩, rfl⟩, rfl⟩ := hnb2
          obtain ⟨t, rfl, ht⟩ : ∃ t, ts = [t] ∧ strip t = (1, nm, 0) := hts
          have := PX.name (d := d) (n := m) (l := rest) (strip_kind ht) hdl hnn (h40 rfl)
          rw [strip_text ht] at this
          simpa [nodes, nodesL] using this
        · have k3 : k = 3 := by omega
          subst k3
          simp at hnb2 hts
          obtain ⟨⟨rfl, _⟩, rfl⟩ := hnb2
          obtain ⟨t, r, rfl, ht, hr⟩ := map_cons_inv (a := (1, nm, 0)) (l := sg 40 :: (txL ag 0 ++ [sg 41])) (by simpa using hts)
          obtain ⟨t2, r2, rfl, ht2, hr2⟩ := map_cons_inv hr
          have e1 : depthX (.mk 3 nm 0 [] ag) = depthL ag + 1 := depthX_eq _
          have e2 : nodes (.mk 3 nm 0 [] ag) = nodesL ag + 1 := nodes_eq _
          have h := pxL_of ag hfl hll d (m + 1) [] r2 rest hr2 (by omega) (by omega)
          have := PX.call (d := d) (n := m) (t := t) (p := t2) (strip_kind ht) hdl hnn (by rw [strip_isS ht2]; decide) h
          rw [strip_text ht] at this
          rw [e2, show m + (nodesL ag + 1) = m + 1 + nodesL ag by omega]
          simpa using this
theorem pxL_of : ∀ (xs : List Ex), formBL xs = true → listsL xs = true → ∀ (d n : Nat) (acc : List Ex) (ts rest : List Tok), ts.map strip = txL xs acc.length ++ [sg 41] → d + depthL xs ≤ 32 → n + nodesL xs ≤ 1024 →
    PX (some acc) d n (ts ++ rest) (.ok (acc ++ xs) (n + nodesL xs) rest)
  | [], _, _, d, n, acc, ts, rest, hts, _, _ => by
    simp only [txL, List.nil_append] at hts
    obtain ⟨t, r, rfl, ht, hr⟩ := map_cons_inv hts
    obtain rfl : r = [] := List.map_eq_nil_iff.1 hr
    have := PX.done (d := d) (n := n) (acc := acc) (t := t) (l := rest) (by rw [strip_isS ht]; decide)
    simpa [nodesL] using this
  | x :: xs, hf, hls, d, n, acc, ts, rest, hts, hd, hn => by
    simp only [formBL, Bool.and_eq_true] at hf
    simp only [listsL, Bool.and_eq_true] at hls
    simp only [depthL] at hd
    simp only [nodesL] at hn ⊢
    have hsub : ∀ (ts2 : List Tok), ts2.map strip = tx x ++ (txL xs (acc.length + 1) ++ [sg 41]) → ∃ r, PX none (d + 1) n (ts2 ++ rest) (.ok [x] (n + nodes x) r) ∧ PX (some (acc ++ [x])) d (n + nodes x) r (.ok (acc ++ x :: xs) (n + (nodes x + nodesL xs)) rest) := by
      intro ts2 h2
      obtain ⟨p, q, rfl, hp, hq⟩ := map_app_inv h2
      have h40 : isT 40 (q ++ rest) = false := by
        cases xs with
        | nil =>
          simp only [txL, List.nil_append] at hq
          obtain ⟨t, r, rfl, ht, _⟩ := map_cons_inv hq
          show isS t 40 = false
          rw [strip_isS ht]; decide
        | cons y ys =>
          simp only [txL, if_pos (Nat.succ_pos _), List.cons_append, List.nil_append] at hq
          obtain ⟨t, r, rfl, ht, _⟩ := map_cons_inv hq
          show isS t 40 = false
          rw [strip_isS ht]; decide
      refine ⟨q ++ rest, ?_, ?_⟩
      · rw [List.append_assoc]
        exact px_of x hf.1 hls.1 (d + 1) n p (q ++ rest) hp (by omega) (by omega) (fun _ => h40)
      · have := pxL_of xs hf.2 hls.2 d (n + nodes x) (acc ++ [x]) q rest (by rw [List.length_append]; exact hq) (by omega) (by omega)
        rw [List.append_assoc, Nat.add_assoc] at this
        exact this
    cases acc with
    | nil =>
      simp only [txL, List.length_nil, if_neg (Nat.lt_irrefl 0), List.nil_append, List.append_assoc] at hts
      obtain ⟨r, h1, h2⟩ := hsub ts hts
      obtain ⟨a, l, ha, hn41, _, _⟩ := tx_head x hf.1
      have h41 : isT 41 (ts ++ rest) = false := by
        rw [ha, List.cons_append] at hts
        obtain ⟨t, r, rfl, ht, _⟩ := map_cons_inv hts
        show isS t 41 = false
        obtain ⟨a1, a2, a3⟩ := a
        rw [strip_isS ht, Bool.eq_false_iff]
        intro h
        rw [Bool.and_eq_true, beq_iff_eq, beq_iff_eq] at h
        have hx := tx_sign x hf.1 a1 a2 a3 l ha h.1
        rw [h.2] at hx
        exact absurd (List.cons.inj hx).1 (by decide)
      exact PX.arg h41 rfl h1 h2
    | cons a0 acc0 =>
      simp only [txL, List.length_cons, if_pos (Nat.succ_pos _), List.cons_append, List.nil_append, List.append_assoc] at hts
      obtain ⟨t, r0, rfl, ht, hr0⟩ := map_cons_inv hts
      obtain ⟨r, h1, h2⟩ := hsub r0 hr0
      refine PX.arg (l1 := r0 ++ rest) ?_ ?_ h1 h2
      · show isS t 41 = false
        rw [strip_isS ht]; decide
      · show (if isS t 44 then some (r0 ++ rest) else none) = _
        rw [strip_isS ht]; rfl
theorem tx_sign : ∀ (x : Ex), formB x = true → ∀ (a1 : Int) (a2 : List UInt8) (a3 : Int) (l : List TT), tx x = (a1, a2, a3) :: l → a1 = 3 → a2 = [91]
  | .mk k nm n zs ag, hf, a1, a2, a3, l, h, h3 => by
    subst h3
    simp only [tx] at h
    split at h
    · have := congrArg (·.1) (List.cons.inj h).1; simp at this
    · split at h
      · have := congrArg (·.2.1) (List.cons.inj h).1; exact this.symm
      · split at h
        · have := congrArg (·.1) (List.cons.inj h).1; simp at this
        · split at h
          · have := congrArg (·.1) (List.cons.inj h).1; simp at this
          · cases h
end

/-- The text of a checked expression is parsed as the expression. -/
theorem PT_back {x : Ex} (h : checkE x = 0) : PT (wtx x) (some x, 0, 0) := by
  obtain ⟨hf, hl, hd, hn, hlen⟩ := checkE_zero h
  obtain ⟨ts, ht, hs⟩ := toks_wtx hf hlen
  have := px_of x hf hl 1 0 ts [] hs (by omega) (by omega) (fun _ => rfl)
  rw [List.append_nil, Nat.zero_add] at this
  exact PT.ok ht this
end Go.Proofs.YtcaaadhhaanbcaaDoor
