/- The walk of a list: its numbers, or the panic of its first fault. -/
import Derived.Test.YtcaaadhhaanbcaaDoorWd
import Derived.Deep.RegionHeld3
import Derived.Deep.AppendLies
namespace Go.Proofs.YtcaaadhhaanbcaaDoor
open Go.RowKit

theorem intInfo : (Tryd.prog.info? 3).map (fun i => (i.zero, i.size, i.bytes)) = some (some (.int .i64 0), 1, 8) := by kernel_rfl

def posOf (p : Nat) (w : World) : Nat := match w.cell? ⟨p, 1, none⟩ with | some (.int _ i) => i.toNat | _ => 0
theorem PS.posOf {B p e i n : Nat} {w : World} {v : Value} {ts : List Tok} (h : PS B w p v ts e i n) : posOf p w = i := by
  unfold YtcaaadhhaanbcaaDoor.posOf; rw [h.cell.2.1]; simp

abbrev intsV (zs : List Int) : List Value := zs.map (Value.int .i64)

def ListPost (B : Nat) (w : World) (p : Nat) (v : Value) (ts : List Tok) (e n : Nat) (r : LR) (en : Ending) (w' : World) : Prop :=
  match r with
  | .ok zs rest => ∃ lv i', en = .returned lv ∧ w'.ownsRow w.heap.size 3 1 lv zs.length (intsV zs) ∧ PS B w' p v ts e i' n ∧ ts.drop i' = rest ∧ w.grownBy w' (some p)
  | .err c rest => en = faultE c (posT e rest : Nat) ∧ w.grownBy w' (some p)

theorem list_err {B p e n : Nat} {w w' : World} {v : Value} {ts : List Tok} {r : LR} {c : Int} {rest : List Tok} (h : r = .err c rest) (hg : w.grownBy w' (some p)) : ListPost B w p v ts e n r (faultE c (posT e rest : Nat)) w' := by
  subst h; exact ⟨rfl, hg⟩
theorem list_ok {B p e n i' : Nat} {w w' : World} {v lv : Value} {ts : List Tok} {r : LR} {zs : List Int} {rest : List Tok} (h : r = .ok zs rest) (ho : w'.ownsRow w.heap.size 3 1 lv zs.length (intsV zs)) (hp : PS B w' p v ts e i' n) (hd : ts.drop i' = rest)
    (hg : w.grownBy w' (some p)) : ListPost B w p v ts e n r (.returned lv) w' := by
  subst h; exact ⟨lv, i', rfl, ho, hp, hd, hg⟩

theorem own_ne {w : World} {B e T size n p : Nat} {v : Value} {xs : List Value} {cs : Array Value} {fr : Nat × Nat} (h : w.ownsRow B e size v n xs) (hp : w.heap[p]? = some (.cells cs T fr)) (hne : T ≠ e) : v.ownBlock ≠ some p := by
  rcases h.2 with ⟨rfl, _⟩ | ⟨g, cap, cur, rfl, _, hg, _⟩
  · simp [Value.ownBlock]
  · intro he
    simp only [Value.ownBlock, Option.some.injEq] at he
    subst he
    rw [hp] at hg
    simp at hg
    exact hne hg.2.1

theorem own_moved {w w' : World} {B e size n p : Nat} {v : Value} {xs : List Value} {cs : Array Value} {T : Nat} {fr : Nat × Nat} (h : w.ownsRow B e size v n xs) (hg : w.grownBy w' (some p)) (hp : w.heap[p]? = some (.cells cs T fr)) (hne : T ≠ e) : w'.ownsRow B e size v n xs :=
  h.kept hg (.inr (own_ne h hp hne))

theorem own_form {w : World} {B e size n : Nat} {v : Value} {xs : List Value} (h : w.ownsRow B e size v n xs) : ∃ a cap, v = .slice a n cap := by
  rcases h.2 with ⟨hv, h0⟩ | ⟨g, cap, cur, hv, _⟩
  · exact ⟨none, 0, by rw [hv, h0]⟩
  · exact ⟨_, _, hv⟩

theorem own_apart {w : World} {B B' e e' size size' n n' g c : Nat} {v : Value} {xs ys : List Value} (h : w.ownsRow B e size v n xs) (k : w.ownsRow B' e' size' (.slice (some ⟨g, 0, none⟩) n' c) n' ys) (hne : e' ≠ e) : v.ownBlock ≠ some g := by
  rcases k.2 with ⟨hv, _⟩ | ⟨g', cap, cur, hv, _, hg, _⟩
  · cases hv
  · simp only [Value.slice.injEq, Option.some.injEq, Addr.mk.injEq] at hv
    obtain ⟨⟨rfl, _⟩, _⟩ := hv
    exact own_ne h hg hne

theorem heap_alloc_old' (w : World) (o : Obj) (k : Nat) (h : k < w.heap.size) : (w.alloc o).drew.heap[k]? = w.heap[k]? := Below.heap_alloc w o k h

theorem PS.grown1 {B p e i n : Nat} {w W w' : World} {v : Value} {ts : List Tok} {row : Option Nat} (h : PS B w p v ts e i n) (hg : W.grownBy w' row) (hW : ∀ k, k < w.heap.size → W.heap[k]? = w.heap[k]?) (hs : w.heap.size ≤ W.heap.size)
    (hp : some p ≠ row) (hv : v.ownBlock = none ∨ row ≠ v.ownBlock) : PS B w' p v ts e i n := by
  have hk : ∀ k, k < w.heap.size → some k ≠ row → w'.heap[k]? = w.heap[k]? := fun k hk hne => (hg.block k (Nat.lt_of_lt_of_le hk hs) hne).trans (hW k hk)
  refine ⟨(hk p h.lt hp).trans h.hp, ?_, h.le, h.small, h.esmall, h.nsmall⟩
  rcases h.own.2 with ⟨hv0, h0⟩ | ⟨g, cap, cur, hv0, hb, hh, r⟩
  · exact ⟨h.own.1, .inl ⟨hv0, h0⟩⟩
  · refine ⟨h.own.1, .inr ⟨g, cap, cur, hv0, hb, ?_, r⟩⟩
    rw [hk g ((Array.getElem?_eq_some_iff.1 hh).1) (fun e => by
      subst hv0
      rcases hv with hv | hv
      · simp [Value.ownBlock] at hv
      · exact hv e.symm)]
    exact hh

theorem grownBy_own {w w2 W w3 : World} {p : Nat} {row : Option Nat} (h : w.grownBy w2 (some p)) (hg : W.grownBy w3 row) (hW : ∀ k, k < w2.heap.size → W.heap[k]? = w2.heap[k]?) (hs : w2.heap.size ≤ W.heap.size) (hr : ∀ k, row = some k → w.heap.size ≤ k)
    (ho : W.os = w2.os := by rfl) (ht : W.tape = w2.tape := by rfl) (hu : W.output = w2.output := by rfl) : w.grownBy w3 (some p) :=
  ⟨(hg.os.trans ho).trans h.os, (hg.tape.trans ht).trans h.tape, (hg.output.trans hu).trans h.output, Nat.le_trans h.size (Nat.le_trans hs hg.size), fun k hk hne => by
    rw [hg.block k (Nat.lt_of_lt_of_le hk (Nat.le_trans h.size hs)) (fun e => by have := hr k e.symm; omega), hW k (Nat.lt_of_lt_of_le hk h.size)]
    exact h.block k hk hne⟩

theorem pNums_kind {acc : List Int} {t : Tok} {r : List Tok} (hk : ¬ t.kind = 2) : pNums acc (t :: r) = .err 14 (t :: r) := by
  cases r <;> simp [pNums, hk]
theorem pNums_big {acc : List Int} {t : Tok} {r : List Tok} (hk : t.kind = 2) (hb : acc.length = 4096) : pNums acc (t :: r) = .err 8 (t :: r) := by
  cases r <;> simp [pNums, hk, hb]
theorem pNums_end {acc : List Int} {t : Tok} {r : List Tok} (hk : t.kind = 2) (hb : ¬ acc.length = 4096) (h : isT 93 r = true) : pNums acc (t :: r) = .ok (acc ++ [t.n]) r.tail := by
  cases r with
  | nil => cases h
  | cons c r2 => rw [pNums, if_neg (by simp [hk]), if_neg hb]; simp only [isT] at h; simp [h]
theorem pNums_next {acc : List Int} {t : Tok} {r : List Tok} (hk : t.kind = 2) (hb : ¬ acc.length = 4096) (h : isT 93 r = false) (h2 : isT 44 r = true) : pNums acc (t :: r) = pNums (acc ++ [t.n]) r.tail := by
  cases r with
  | nil => cases h2
  | cons c r2 => rw [pNums, if_neg (by simp [hk]), if_neg hb]; simp only [isT] at h h2; simp [h, h2]
theorem pNums_bad {acc : List Int} {t : Tok} {r : List Tok} (hk : t.kind = 2) (hb : ¬ acc.length = 4096) (h : isT 93 r = false) (h2 : isT 44 r = false) : pNums acc (t :: r) = .err 14 r := by
  cases r with
  | nil => rw [pNums, if_neg (by simp [hk]), if_neg hb]
  | cons c r2 => rw [pNums, if_neg (by simp [hk]), if_neg hb]; simp only [isT] at h h2; simp [h, h2]

set_option maxRecDepth 100000 in
set_option maxHeartbeats 8000000 in
theorem f55_any {B p e i0 n : Nat} {w : World} {v : Value} {ts : List Tok} (h : PS B w p v ts e i0 n) :
    Calls Tryd.prog 55 #[.pointer (some ⟨p, 0, none⟩)] w (ListPost B w p v ts e n (pList (ts.drop i0))) := by
  obtain ⟨i0', hi0, hz0, hz1, hz2⟩ := info_parts intInfo
  by_cases h93 : isT 93 (ts.drop i0) = true
  · as_aux_lemma =>
    have hl : pList (ts.drop i0) = .ok [] (ts.drop (i0 + 1)) := by rw [pList, if_pos h93, List.tail_drop]
    have Hl := Lib.hid hl; clear hl
    go_enter Tryd.func55, Tryd.ntmps55
    go_wp2_with fail
    refine (f53_yes 93 h h93).mono ?_
    rintro en w1 ⟨rfl, h1, hg⟩
    go_wp2_with fail
    go_ret
    exact list_ok Hl.out (World.ownsRow_nil _ _ _ _) h1 rfl hg
  · simp only [Bool.not_eq_true] at h93
    have Hl : Hid (pList (ts.drop i0) = pNums [] (ts.drop i0)) := Lib.hid (by rw [pList, if_neg (by simp [h93])])
    go_enter Tryd.func55, Tryd.ntmps55
    go_wp2_with fail
    refine (f53_no 93 h h93).mono ?_
    rintro en w1 ⟨rfl, hd1⟩
    have h1 := h.drew hd1
    have Hg1 : Hid (w.grownBy w1 (some p)) := Lib.hid (grownBy_drw hd1)
    clear hd1
    go_wp2_with fail
    go_loopw [3] (fun o wr => ∃ (i : Nat) (acc : List Int), wr.ownsRow w.heap.size 3 1 o acc.length (intsV acc) ∧ PS B wr p v ts e i n ∧ w.grownBy wr (some p) ∧ pNums acc (ts.drop i) = pList (ts.drop i0) ∧ acc.length ≤ i) (fun _ wr => ts.length - posOf p wr)
    case atStart => exact ⟨i0, [], World.ownsRow_nil _ _ _ _, h1, Hg1.out, Hl.out.symm, by simp⟩
    case round =>
      obtain ⟨i, acc, ho, hps, hg, hp, hai⟩ := hrel
      have Ho := Lib.hid ho; clear ho
      have Hg := Lib.hid hg; clear hg
      have Hp := Lib.hid hp; clear hp
      have hle := hps.le
      have hsm := hps.small
      cases hd : ts.drop i with
      | nil =>
        as_aux_lemma =>
        have h54 := f54_any hps
        rw [hd] at h54
        simp only [kindT] at h54
        have hpn : pList (ts.drop i0) = .err 14 (ts.drop i) := by rw [← Hp.out, hd]; rfl
        have Hpn := Lib.hid hpn; clear hpn
        clear hd
        go_wp2_with fail
        refine h54.mono ?_
        rintro en w2 ⟨rfl, hd2⟩
        go_wp2_with fail
        refine (f29_any (hps.drew hd2)).mono ?_
        rintro en w3 ⟨rfl, hd3⟩
        go_wp2_with fail
        refine (f28_any _ _ _).mono ?_
        rintro en w4 ⟨rfl, rfl⟩
        exact ⟨rfl, list_err Hpn.out (grownBy_trans Hg.out (grownBy_drw (hd2.trans hd3)))⟩
      | cons t r =>
        by_cases hk : t.kind = 2
        · by_cases hbig : acc.length = 4096
          · have h54 := f54_any hps
            rw [hd] at h54
            simp only [kindT, hk] at h54
            have Hpn : Hid (pList (ts.drop i0) = .err 8 (ts.drop i)) := Lib.hid (by rw [← Hp.out, hd, pNums_big hk hbig])
            have hbig' : ((acc.length : Int) == 4096) = true := by simp; omega
            obtain ⟨oa, oc, rfl⟩ := own_form Ho.out
            clear hd hk hbig
            as_aux_lemma =>
            go_wp2_with fail
            refine h54.mono ?_
            rintro en w2 ⟨rfl, hd2⟩
            go_wp2_with fail
            refine (f29_any (hps.drew hd2)).mono ?_
            rintro en w3 ⟨rfl, hd3⟩
            go_wp2_with fail
            refine (f28_any _ _ _).mono ?_
            rintro en w4 ⟨rfl, rfl⟩
            exact ⟨rfl, list_err Hpn.out (grownBy_trans Hg.out (grownBy_drw (hd2.trans hd3)))⟩
          · have h54 := f54_any hps
            rw [hd] at h54
            simp only [kindT, hk] at h54
            have hbig' : ((acc.length : Int) == 4096) = false := by simp; omega
            obtain ⟨oa, oc, rfl⟩ := own_form Ho.out
            have hk2 := Lib.hid hk; clear hk
            go_wp2_with fail
            refine h54.mono ?_
            rintro en w2 ⟨rfl, hd2⟩
            clear h54
            have hps2 := hps.drew hd2
            have Ho2 : Hid (w2.ownsRow w.heap.size 3 1 (.slice oa acc.length oc) acc.length (intsV acc)) := Lib.hid (by obtain ⟨m, rfl⟩ := hd2; exact Ho.out)
            have Hg2 := Lib.hid (grownBy_trans Hg.out (grownBy_drw hd2))
            clear hd2
            have hgs := Hg2.out.size
            obtain ⟨g, cap, rfl, hlt, hn, hm, k0, k1, k2, k3⟩ := hps2.here hd
            obtain ⟨c0, c1, c2, c3⟩ := hps2.cell
            have lp := hps2.lt
            have lg := World.block_lt_of_cell? w2 _ k0
            have Hd := Lib.hid hd; clear hd
            have ap := Lib.hid (own_ne Ho2.out hps2.hp (by decide))
            have ag := Lib.hid (own_apart Ho2.out hps2.own (by decide))
            have hi0' : (0 : Int) ≤ (i : Int) := Int.natCast_nonneg _
            have hi1 : (i : Int) < (ts.length : Int) := by omega
            go_wp2_with fail
            go_region_held3 (fun w' => w'.cell? ⟨p, 0, none⟩ = some (.slice (some ⟨g, 0, none⟩) ts.length cap) ∧ w'.cell? ⟨p, 1, none⟩ = some (.int .i64 i) ∧ w'.cell? ⟨g, i * 4 + 2, none⟩ = some (.int .i64 t.n))
              (first
                | go_keep
                | (go_split_ands
                   refine ⟨?_, ?_, ?_⟩
                   · (rw [hgrow.cell_far _ (by simp; omega) (Ne.symm ap.out)]; assumption)
                   · (rw [hgrow.cell_far _ (by simp; omega) (Ne.symm ap.out)]; assumption)
                   · (rw [hgrow.cell_far _ (by simp; omega) (Ne.symm ag.out)]; assumption)))
              ((refine step_append_lies _ (by rfl) _ _ _ (by rfl) w.heap.size 3 i0' _ 1 8 Tryd.underlying23 hi0 hz0 hz1 hz2 rfl (by omega) (.slice oa acc.length oc) acc.length (intsV acc) (by rfl) ((Ho2.out.alloc _).drew)
                  ⟨w2.heap.size, 0, none⟩ 1 1 [.int .i64 t.n] (by rfl) (by rfl) (World.news_of_block (cs := #[.int .i64 t.n]) (t := 3) (fr := (0, 0)) (heap_alloc_new w2 _)) (by simp [Value.oneCell'])
                  (by omega) (by unfold maxLen; omega) (by omega) (by simp; omega) (w2.heap.size + 1) (by simp) ?_; intro gg cc w3 hown1 hgrow hat hlt))
            rename_i hHeld; clear hHeld
            have Hps3 : Hid (PS B w3 p (.slice (some ⟨g, 0, none⟩) ts.length cap) ts e i n) := Lib.hid (hps2.grown1 (W := (w2.alloc (.cells #[.int .i64 t.n] 3)).drew) hgrow (fun k hk => heap_alloc_old' w2 _ k hk) (by simp) (Ne.symm ap.out) (.inr ag.out))
            have Hg3 : Hid (w.grownBy w3 (some p)) := Lib.hid (grownBy_own Hg2.out (W := (w2.alloc (.cells #[.int .i64 t.n] 3)).drew) hgrow (fun k hk => heap_alloc_old' w2 _ k hk) (by simp) (fun k hk => (Ho2.out.lt k hk).1))
            have Ho3 : Hid (w3.ownsRow w.heap.size 3 1 (.slice (some ⟨gg, 0, none⟩) (acc.length + 1) cc) (acc ++ [t.n]).length (intsV (acc ++ [t.n]))) := Lib.hid (by rw [List.length_append]; simpa [intsV] using hown1)
            clear hown1 hgrow hat c0 c1 c2 c3 k0 k1 k2 k3
            have hPS4 := Hps3.out.setI (i + 1) (by omega)
            have Ho4 : Hid (_) := Lib.hid (own_moved Ho3.out (grownBy_set (grownBy_drw (Drw.refl w3)) 1 (.int .i64 (i + 1 : Nat))) Hps3.out.hp (by decide))
            have Hg4 : Hid (_) := Lib.hid (grownBy_set Hg3.out 1 (.int .i64 (i + 1 : Nat)))
            obtain ⟨c0, c1, c2, c3⟩ := Hps3.out.cell
            have fz := Hps3.out.frz 1
            have HP4 := Lib.hid hPS4.hp
            have hd1 : ts.drop (i + 1) = r := by rw [← List.tail_drop, Hd.out]; rfl
            cases hr93 : isT 93 r with
            | true =>
              have Hpn : Hid (pList (ts.drop i0) = .ok (acc ++ [t.n]) (ts.drop (i + 1 + 1))) := Lib.hid (by rw [← Hp.out, Hd.out, pNums_end hk2.out hbig hr93, ← hd1, List.tail_drop])
              have h53 := f53_yes 93 hPS4 (by rw [hd1]; exact hr93)
              have HD1 := Lib.hid hd1; clear hd1
              clear hPS4
              go_wp2_with fail
              refine h53.mono ?_
              rintro en w5 ⟨rfl, h5, hg5⟩
              go_wp2_with fail
              go_ret
              exact list_ok Hpn.out (own_moved Ho4.out hg5 HP4.out (by decide)) h5 rfl (grownBy_trans Hg4.out hg5)
            | false =>
              have h53 := f53_no 93 hPS4 (by rw [hd1]; exact hr93)
              cases hr44 : isT 44 r with
              | true =>
                have Hpn : Hid (pNums (acc ++ [t.n]) (ts.drop (i + 1 + 1)) = pList (ts.drop i0)) := Lib.hid (by rw [← Hp.out, Hd.out, pNums_next hk2.out hbig hr93 hr44, ← hd1, List.tail_drop])
                have HR := Lib.hid (hd1 ▸ hr44)
                clear hd1
                go_wp2_with fail
                refine h53.mono ?_
                rintro en w5 ⟨rfl, hd5⟩
                have Hg5 := Lib.hid (grownBy_drw (p := p) hd5)
                have h56 := f56_yes 44 (hPS4.drew hd5) HR.out
                clear hd5
                go_wp2_with fail
                refine h56.mono ?_
                rintro en w6 ⟨rfl, h6, hg6⟩
                have hpo := h6.posOf
                have hle6 := h6.le
                have hlt6 := hps.posOf
                have HQ := Lib.hid hpo; clear hpo
                have HQ2 := Lib.hid hlt6; clear hlt6
                go_wp2_with fail
                refine ⟨⟨i + 1 + 1, acc ++ [t.n], own_moved Ho4.out (grownBy_trans Hg5.out hg6) HP4.out (by decide), h6, grownBy_trans (grownBy_trans Hg4.out Hg5.out) hg6, Hpn.out, by simp; omega⟩, ?_⟩
                rw [HQ.out, HQ2.out]; omega
              | false =>
                have Hpn : Hid (pList (ts.drop i0) = .err 14 (ts.drop (i + 1))) := Lib.hid (by rw [← Hp.out, Hd.out, pNums_bad hk2.out hbig hr93 hr44, hd1])
                have HR := Lib.hid (hd1 ▸ hr44)
                clear hd1
                go_wp2_with fail
                refine h53.mono ?_
                rintro en w5 ⟨rfl, hd5⟩
                have Hg5 := Lib.hid (grownBy_drw (p := p) hd5)
                have h56 := f56_no 44 (hPS4.drew hd5) HR.out
                clear hd5
                go_wp2_with fail
                refine h56.mono ?_
                rintro en w6 ⟨rfl, hd6⟩
                exact ⟨rfl, list_err Hpn.out (grownBy_trans (grownBy_trans Hg4.out Hg5.out) (grownBy_drw hd6))⟩
        · have h54 := f54_any hps
          rw [hd] at h54
          simp only [kindT] at h54
          have Hpn : Hid (pList (ts.drop i0) = .err 14 (ts.drop i)) := Lib.hid (by rw [← Hp.out, hd, pNums_kind hk])
          have hk' : (t.kind != 2) = true := by simpa using hk
          clear hd hk
          as_aux_lemma =>
          go_wp2_with fail
          refine h54.mono ?_
          rintro en w2 ⟨rfl, hd2⟩
          go_wp2_with fail
          refine (f29_any (hps.drew hd2)).mono ?_
          rintro en w3 ⟨rfl, hd3⟩
          go_wp2_with fail
          refine (f28_any _ _ _).mono ?_
          rintro en w4 ⟨rfl, rfl⟩
          exact ⟨rfl, list_err Hpn.out (grownBy_trans Hg.out (grownBy_drw (hd2.trans hd3)))⟩
end Go.Proofs.YtcaaadhhaanbcaaDoor
