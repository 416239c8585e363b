/- The walk of a call's arguments, and so of every expression. -/
import Derived.Test.YtcaaadhhaanbcaaDoorWf
import Derived.Deep.RegionLaw
import Derived.IntWalk
namespace Go.Proofs.YtcaaadhhaanbcaaDoor
open Go.RowKit

theorem pNums_shorter : ∀ (l : List Tok) (acc : List Int) (zs : List Int) (l2 : List Tok), pNums acc l = .ok zs l2 → l2.length < l.length
  | [], acc, zs, l2, h => by simp [pNums] at h
  | [t], acc, zs, l2, h => by
    simp only [pNums] at h
    split at h
    · cases h
    · split at h <;> cases h
  | t :: c :: r, acc, zs, l2, h => by
    simp only [pNums] at h
    split at h
    · cases h
    · split at h
      · cases h
      · split at h
        · cases h; simp; omega
        · split at h
          · have := pNums_shorter r _ _ _ h; simp; omega
          · cases h

theorem pList_shorter {l : List Tok} {zs : List Int} {l2 : List Tok} (h : pList l = .ok zs l2) : l2.length < l.length + 1 := by
  unfold pList at h
  split at h
  · cases h; simp; omega
  · have := pNums_shorter _ _ _ _ h; omega

theorem PX.shorter {m : Option (List Ex)} {d n : Nat} {l : List Tok} {r : PR} (h : PX m d n l r) : ∀ xs n2 l2, r = .ok xs n2 l2 → l2.length < l.length := by
  induction h with
  | bad _ => intro _ _ _ e; cases e
  | deep _ _ => intro _ _ _ e; cases e
  | num _ _ _ => intro _ _ _ e; cases e; simp
  | list _ _ _ hl => intro _ _ _ e; cases e; have := pList_shorter hl; simp; omega
  | listErr _ _ _ _ => intro _ _ _ e; cases e
  | name _ _ _ _ => intro _ _ _ e; cases e; simp
  | call _ _ _ _ _ ih => intro _ _ _ e; cases e; have := ih _ _ _ rfl; simp; omega
  | callErr _ _ _ _ _ => intro _ _ _ e; cases e
  | done _ => intro _ _ _ e; cases e; simp
  | sep _ _ => intro _ _ _ e; cases e
  | @arg d n n2 acc x l l1 l2 r ht hs hx h ih1 ih2 =>
    intro _ _ _ e
    have h1 := ih1 _ _ _ rfl
    have h2 := ih2 _ _ _ e
    have : l1.length ≤ l.length := by
      unfold sepT at hs
      split at hs
      · cases hs; exact Nat.le_refl _
      · split at hs
        · cases hs; simp
        · cases hs
    omega
  | argErr _ _ _ => intro _ _ _ e; cases e

theorem PX.nodes {m : Option (List Ex)} {d n : Nat} {l : List Tok} {r : PR} (h : PX m d n l r) : n ≤ 1024 → ∀ xs n2 l2, r = .ok xs n2 l2 → n2 ≤ 1024 := by
  induction h with
  | bad _ => intro _ _ _ _ e; cases e
  | deep _ _ => intro _ _ _ _ e; cases e
  | num _ _ _ => intro _ _ _ _ e; cases e; omega
  | list _ _ _ hl => intro _ _ _ _ e; cases e; omega
  | listErr _ _ _ _ => intro _ _ _ _ e; cases e
  | name _ _ _ _ => intro _ _ _ _ e; cases e; omega
  | call _ _ _ _ _ ih => intro _ _ _ _ e; cases e; exact ih (by omega) _ _ _ rfl
  | callErr _ _ _ _ _ => intro _ _ _ _ e; cases e
  | done _ => intro _ _ _ _ e; cases e; assumption
  | sep _ _ => intro _ _ _ _ e; cases e
  | arg ht hs hx h ih1 ih2 => intro hn _ _ _ e; exact ih2 (ih1 hn _ _ _ rfl) _ _ _ e
  | argErr _ _ _ => intro _ _ _ _ e; cases e

/-- What stands at the head of each round of the arguments' loop. T: the block of the call's expression. -/
def ArgsAt (B p : Nat) (v : Value) (ts : List Tok) (e : Nat) (w : World) (T : Nat) (nm : List UInt8) (d k : Nat) (r : PR) (wr : World) : Prop :=
  ∃ (i n : Nat) (acc : List Ex) (cells : List Value) (av : Value), PS B wr p v ts e i n ∧ wr.heap[T]? = some (.cells #[.int .i64 3, strV nm, .int .i64 0, .slice none 0 0, av] 26 (0, 0)) ∧ wr.heap[w.heap.size]? = some zeroEx ∧
    wr.ownsRow w.heap.size 26 5 av acc.length cells ∧ RXs (fun b => w.heap.size < b ∧ b ≠ T ∧ some b ≠ av.ownBlock) wr acc (fun j => cells[j]?) ∧ av.ownBlock ≠ some T ∧ av.ownBlock ≠ some w.heap.size ∧ w.grownBy wr (some p) ∧
    PX (some acc) d n (ts.drop i) r ∧ (ts.drop i).length ≤ k ∧ acc.length ≤ i

def ArgsPost (B p : Nat) (v : Value) (ts : List Tok) (e : Nat) (w : World) (nm : List UInt8) (r : PR) (en : Ending) (w' : World) : Prop :=
  match r with
  | .ok xs n' rest => ExprPost B w p v ts e (.ok [.mk 3 nm 0 [] xs] n' rest) en w'
  | .err c rest => ExprPost B w p v ts e (.err c rest) en w'

theorem H27 (args : Array Value) (w : World) : (callFunc 27 args).run Tryd.prog w = .ok (.enter 27 args) w := by
  go_simp
theorem step_callF {P : Program} {ops : Array Oper} {o : Oper} {a : Act} {w : World} {K : Act → World → Prop} {Q : Exit → Act → World → Prop} {E : Prop} {R : Ending → World → Prop} (f : FuncId) (x y : Operand) (tys : Array TypeId) (v u : Value) (hgd : o.guard = none)
    (ho : o.op = .call { callee := .value (.func f), args := #[x, y], argTypes := tys }) (hx : a.eval x = v) (hy : a.eval y = u)
    (hen : ∀ (args : Array Value) (w : World), (callFunc f args).run P w = .ok (.enter f args) w) (hc : Calls P f #[v, u] w R)
    (h : ∀ e w', R e w' → (match e with | .returned v => K (a.put o.dst v) w' | .panicked c => Q (.panic c) a w' | .outgrown => LetsOut Q)) :
    if Region.wanted o (yielded ops a.tmps) = true then Oper.wp P o a w K Q else E := by
  have hw : Region.wanted o (yielded ops a.tmps) = true := by simp [Region.wanted, hgd]
  rw [if_pos hw]
  have hr : (execOp a.eval o).run P w = .ok (.enter f #[v, u]) w := by
    have he : a.eval (.func f) = .func (.func f) #[] #[] := rfl
    unfold execOp
    simp only [ho, resolve, he, List.map_toArray, List.map_cons, List.map_nil, hx, hy]
    simp [Deferred.ofValue, invoke, hen]
  unfold Oper.wp
  rw [hr, Oper.upon_enter]
  exact hc.mono fun e w' he => by
    have := h e w' he
    cases e <;> exact this
theorem args_err {B p e : Nat} {w w' : World} {v : Value} {ts : List Tok} {c : Int} {rest : List Tok} {nm : List UInt8} (hg : w.grownBy w' (some p)) : ArgsPost B p v ts e w nm (.err c rest) (faultE c (posT e rest : Nat)) w' := ⟨rfl, hg⟩
theorem cell_moved {w w' : World} {p b o : Nat} {u : Value} (hg : w.grownBy w' (some p)) (hb : b ≠ p) (h : w.cell? ⟨b, o, none⟩ = some u) : w'.cell? ⟨b, o, none⟩ = some u := by
  have hlt : b < w.heap.size := World.block_lt_of_cell? w _ h
  rw [← h]; exact World.cell?_of_block (hg.block b hlt (fun e => hb (by simpa using e)))
theorem cell_put5 {w : World} {b c o : Nat} {a0 a1 a2 a3 a4 : Value} (hb : b ≠ c) :
    (((((w.setCell ⟨c, 0, none⟩ a0).setCell ⟨c, 1, none⟩ a1).setCell ⟨c, 2, none⟩ a2).setCell ⟨c, 3, none⟩ a3).setCell ⟨c, 4, none⟩ a4).cell? ⟨b, o, none⟩ = w.cell? ⟨b, o, none⟩ := by
  refine World.cell?_of_block ?_
  simp only []
  rw [Below.heap_setCell _ _ _ _ hb, Below.heap_setCell _ _ _ _ hb, Below.heap_setCell _ _ _ _ hb, Below.heap_setCell _ _ _ _ hb, Below.heap_setCell _ _ _ _ hb]
theorem own_set {w : World} {B e size n b o : Nat} {v u : Value} {xs : List Value} (h : w.ownsRow B e size v n xs) (hb : v.ownBlock ≠ some b) : (w.setCell ⟨b, o, none⟩ u).ownsRow B e size v n xs :=
  h.kept (row := some b) ⟨rfl, rfl, rfl, by simp [World.setCell], fun k _ hk => Below.heap_setCell _ _ _ _ (fun e => hk (by simp [e]))⟩ (.inr hb)
theorem sep_some {acc : List Ex} {L l1 : List Tok} (h : sepT acc L = some l1) : (acc = [] ∧ l1 = L) ∨ (0 < acc.length ∧ isT 44 L = true ∧ l1 = L.tail) := by
  unfold sepT at h
  split at h
  · rename_i he; cases h; exact .inl ⟨by simpa using he, rfl⟩
  · rename_i he
    split at h
    · rename_i h44; cases h; exact .inr ⟨by cases acc <;> simp at he ⊢, h44, rfl⟩
    · cases h
theorem sep_none {acc : List Ex} {L : List Tok} (h : sepT acc L = none) : 0 < acc.length ∧ isT 44 L = false := by
  unfold sepT at h
  split at h
  · cases h
  · rename_i he
    split at h
    · cases h
    · rename_i h44; exact ⟨by cases acc <;> simp at he ⊢, by simpa using h44⟩

theorem RInts_form {G : Nat → Prop} {w : World} {v : Value} {zs : List Int} (h : RInts G w v zs) : ∃ a c, v = .slice a zs.length c := by
  obtain ⟨a, c, h, _⟩ := h; exact ⟨a, c, h⟩
theorem RArgs_form {G : Nat → Prop} {w : World} {v : Value} {zs : List Ex} (h : RArgs G w v zs) : ∃ a c, v = .slice a zs.length c := by
  obtain ⟨a, c, h, _⟩ := h; exact ⟨a, c, h⟩

/-- Behind an argument: the head of the next round. -/
theorem args_next {B p e d k n' n2 i1 i2 T gg cc : Nat} {w w9 w10 w11 : World} {V av : Value} {ts l2 : List Tok} {nm : List UInt8} {r : PR} {acc : List Ex} {x : Ex} {cells cs : List Value}
    (hTR : w.heap.size < T) (hpw : p < w.heap.size)
    (HP9 : PS B w9 p V ts e i1 n') (HG9 : w.grownBy w9 (some p)) (HT9 : w9.heap[T]? = some (.cells #[.int .i64 3, strV nm, .int .i64 0, .slice none 0 0, av] 26 (0, 0))) (HR9 : w9.heap[w.heap.size]? = some zeroEx)
    (Ho9 : w9.ownsRow w.heap.size 26 5 av acc.length cells) (Hx9 : RXs (fun b => w.heap.size < b ∧ b ≠ T ∧ some b ≠ av.ownBlock) w9 acc (fun j => cells[j]?)) (hvT : av.ownBlock ≠ some T) (hvR : av.ownBlock ≠ some w.heap.size)
    (hg10 : w9.drew.grownBy w10 (some p)) (h10 : PS B w10 p V ts e i2 n2) (hd10 : ts.drop i2 = l2) (hxv : XV (fun b => w9.drew.heap.size ≤ b) w10 x cs.toArray)
    (hown11 : w11.ownsRow w.heap.size 26 5 (.slice (some ⟨gg, 0, none⟩) (acc.length + 1) cc) (acc.length + 1) (cells ++ cs)) (hgrow : (w10.alloc (.cells cs.toArray 26)).grownBy w11 av.ownBlock) (hat : av.ownBlock = some gg ∨ gg = w10.heap.size + 1)
    (hr : PX (some (acc ++ [x])) d n2 l2 r) (hlk : l2.length ≤ k) (hai : acc.length + 1 ≤ i2) :
    ArgsAt B p V ts e w T nm d k r (w11.setCell ⟨T, 4, none⟩ (.slice (some ⟨gg, 0, none⟩) (acc.length + 1) cc)) ∧ posOf p (w11.setCell ⟨T, 4, none⟩ (.slice (some ⟨gg, 0, none⟩) (acc.length + 1) cc)) = i2 := by
  have hTl9 : T < w9.heap.size := (Array.getElem?_eq_some_iff.1 HT9).1
  have hRl9 : w.heap.size < w9.heap.size := (Array.getElem?_eq_some_iff.1 HR9).1
  have hs10 : w9.heap.size ≤ w10.heap.size := hg10.size
  have HT10 : w10.heap[T]? = _ := (hg10.block _ hTl9 (fun e => by simp at e; omega)).trans HT9
  have HR10 : w10.heap[w.heap.size]? = _ := (hg10.block _ hRl9 (fun e => by simp at e; omega)).trans HR9
  have old11 : ∀ b, b < w10.heap.size → some b ≠ av.ownBlock → w11.heap[b]? = w10.heap[b]? := fun b hb hne => (hgrow.block b (by simp; omega) hne).trans (Below.heap_alloc _ _ _ hb)
  have HT11 : w11.heap[T]? = _ := (old11 T (by omega) (fun e => hvT e.symm)).trans HT10
  have HR11 : w11.heap[w.heap.size]? = _ := (old11 _ (by omega) (fun e => hvR e.symm)).trans HR10
  have hggT : gg ≠ T := by rcases hat with h | h; (intro e; subst e; exact hvT h); omega
  have hggR : gg ≠ w.heap.size := by rcases hat with h | h; (intro e; subst e; exact hvR h); omega
  have cell12 : ∀ b o u, b ≠ T → w11.cell? ⟨b, o, none⟩ = some u → (w11.setCell ⟨T, 4, none⟩ (.slice (some ⟨gg, 0, none⟩) (acc.length + 1) cc)).cell? ⟨b, o, none⟩ = some u := fun b o u hb hu => by
    rw [← hu]; exact World.cell?_of_block (Below.heap_setCell _ _ _ _ hb)
  have cell11 : ∀ b o u, some b ≠ av.ownBlock → w10.cell? ⟨b, o, none⟩ = some u → w11.cell? ⟨b, o, none⟩ = some u := fun b o u hb hu => by
    rw [← hu]; exact World.cell?_of_block (old11 b (World.block_lt_of_cell? w10 _ hu) hb)
  have hvp : av.ownBlock ≠ some p := own_ne Ho9 HP9.hp (by decide)
  have hvV : some p ≠ av.ownBlock := fun e => hvp e.symm
  have HP11 : PS B w11 p V ts e i2 n2 := by
    refine h10.grown1 (W := w10.alloc (.cells cs.toArray 26)) hgrow (fun k hk => Below.heap_alloc _ _ _ hk) (by simp) hvV ?_
    rcases h10.own.2 with ⟨hv, _⟩ | ⟨g, cap, cur, hv, _, hh, _⟩
    · exact .inl (by rw [hv]; rfl)
    · refine .inr ?_
      have ho10 := own_moved (show w9.drew.ownsRow w.heap.size 26 5 av acc.length cells from Ho9) hg10 (show w9.drew.heap[p]? = _ from HP9.hp) (by decide)
      have := own_ne ho10 hh (by decide)
      rw [hv]; exact this
  have hx9 : RXs (fun b => w.heap.size < b ∧ b ≠ T ∧ some b ≠ (Value.slice (some ⟨gg, 0, none⟩) (acc.length + 1) cc).ownBlock) (w11.setCell ⟨T, 4, none⟩ (.slice (some ⟨gg, 0, none⟩) (acc.length + 1) cc)) acc (fun j => (cells ++ cs)[j]?) := by
    refine RXs_mono (fun b o u hb hu => ?_) acc _ _ (fun j u hj => ?_) Hx9
    · obtain ⟨h1, h2, h3⟩ := hb
      have hlt : b < w9.heap.size := World.block_lt_of_cell? w9 _ hu
      refine ⟨⟨h1, h2, ?_⟩, cell12 b o u h2 (cell11 b o u h3 (cell_moved hg10 (by omega) hu))⟩
      intro e
      simp only [Value.ownBlock, Option.some.injEq] at e
      rcases hat with h | h
      · rw [h] at h3; exact h3 (by rw [e])
      · omega
    · rw [List.getElem?_append_left (List.getElem?_eq_some_iff.1 hj).1]; exact hj
  have hxn : RXs (fun b => w.heap.size < b ∧ b ≠ T ∧ some b ≠ (Value.slice (some ⟨gg, 0, none⟩) (acc.length + 1) cc).ownBlock) (w11.setCell ⟨T, 4, none⟩ (.slice (some ⟨gg, 0, none⟩) (acc.length + 1) cc)) [x] (fun j => (cells ++ cs)[j + 5 * acc.length]?) := by
    refine RXs_cons.2 ⟨?_, RXs_nil⟩
    refine RX_mono (fun b o u hb hu => ?_) x _ _ (fun j u hj => ?_) hxv.rx
    · have hb' : w9.heap.size ≤ b := hb
      have hlt : b < w10.heap.size := World.block_lt_of_cell? w10 _ hu
      have hbv : some b ≠ av.ownBlock := fun e => by
        have := (Ho9.lt b e.symm).2; omega
      refine ⟨⟨by omega, by omega, ?_⟩, cell12 b o u (by omega) (cell11 b o u hbv hu)⟩
      intro e
      simp only [Value.ownBlock, Option.some.injEq] at e
      rcases hat with h | h
      · exact hbv (by rw [h, e])
      · omega
    · have hl := Ho9.1
      rw [List.getElem?_append_right (by omega), show j + 5 * acc.length - cells.length = j from by omega]
      simpa using hj
  have HP12 := HP11.setO 4 (.slice (some ⟨gg, 0, none⟩) (acc.length + 1) cc) (show T ≠ p by omega) (own_ne HP11.own HT11 (by decide))
  refine ⟨⟨i2, n2, acc ++ [x], cells ++ cs, .slice (some ⟨gg, 0, none⟩) (acc.length + 1) cc, HP12, ?_, ?_, ?_, ?_, ?_, ?_, ?_, ?_, ?_, ?_⟩, HP12.posOf⟩
  · simp [World.setCell, Array.getElem?_modify, HT11]
  · exact (Below.heap_setCell _ _ _ _ (by simp; omega)).trans HR11
  · rw [List.length_append]; exact own_set hown11 (by simp [Value.ownBlock]; exact hggT)
  · exact (RXs_append acc [x] _).2 ⟨hx9, hxn⟩
  · simp [Value.ownBlock]; exact hggT
  · simp [Value.ownBlock]; exact hggR
  · refine grownBy_setNew ?_ (by omega) _ _
    refine grownBy_own (grownBy_trans HG9 (grownBy_trans (grownBy_drw ⟨1, rfl⟩) hg10)) (W := w10.alloc (.cells cs.toArray 26)) hgrow (fun k hk => Below.heap_alloc _ _ _ hk) (by simp) (fun k hk => (Ho9.lt k hk).1)
  · rw [hd10]; exact hr
  · rw [hd10]; exact hlk
  · rw [List.length_append]; exact hai

set_option maxRecDepth 100000 in
set_option maxHeartbeats 60000000 in
theorem f27_call {B p e i n d k : Nat} {w : World} {v : Value} {ts l : List Tok} {t q : Tok} {r : PR} (IH : Says27 B p v ts e k) (h : PS B w p v ts e i n) (ht : ts.drop i = t :: q :: l) (hk : t.kind = 1) (hq : isS q 40 = true) (hd : d ≤ 32) (hn : n ≠ 1024)
    (hl : l.length ≤ k) (hx : PX (some []) d (n + 1) l r) :
    Calls Tryd.prog 27 #[.pointer (some ⟨p, 0, none⟩), .int .i64 d] w (ArgsPost B p v ts e w t.text r) := by
  have HX := Lib.hid hx; clear hx
  have hl2 : ts.drop (i + 1 + 1) = l := by rw [← List.tail_drop, drop_next ht]; rfl
  have HL2 := Lib.hid hl2; clear hl2
  have HQ : Hid (isT 40 (ts.drop (i + 1)) = true) := Lib.hid (by rw [drop_next ht]; exact hq)
  have hlt2 : i + 1 < ts.length := drop_lt (drop_next ht)
  have h91 : isT 91 (ts.drop i) = false := by rw [ht]; simp [isT, isS, hk]
  have hkind : kindT (ts.drop i) = 1 := by rw [ht]; exact hk
  clear hk hq
  have hnn := h.nsmall
  have hn1k : n + 1 ≤ 1024 := by omega
  have hnb : ((n : Int) == 1024) = false := by simp; omega
  have hlt := drop_lt ht
  have Ht := Lib.hid ht; clear ht hn
  have hnot : ∀ (x : Bool) (w : World), (Op.unary .not (.bool x)).run Tryd.prog w = .ok (.bool (!x)) w := fun _ _ => rfl
  have hA := h.alloc zeroEx
  obtain ⟨c0, c1, c2, c3⟩ := hA.cell
  have Hg : Hid (w.grownBy (w.alloc zeroEx) (some p)) := Lib.hid (grownBy_alloc (grownBy_drw (Drw.refl w)) _)
  have hlp := h.lt
  go_enter Tryd.func27, Tryd.ntmps27
  go_wp2_with fail
  have H29 := Lib.hid (fun W (hW : Drw (w.alloc zeroEx) W) => f29_any (hA.drew hW))
  go_quiet ((go_at_call 29; exact Calls.quiet_of (H29.out _ ⟨_, rfl⟩)))
  have hd1 : Drw (w.alloc zeroEx) ((w.alloc zeroEx).drewN nq) := ⟨_, rfl⟩
  go_wp2_with fail
  refine (f53_no 91 (hA.drew hd1) h91).mono ?_
  rintro en w2 ⟨rfl, hd2⟩
  have hd12 := hd1.trans hd2
  go_wp2_with fail
  have h54 := f54_any (hA.drew hd12)
  rw [hkind] at h54
  refine h54.mono ?_
  rintro en w3 ⟨rfl, hd3⟩
  have hP := hA.drew (hd12.trans hd3)
  have Hg3 := Lib.hid (grownBy_trans Hg.out (grownBy_drw (p := p) (hd12.trans hd3)))
  have Hr3 : Hid (w3.heap[w.heap.size]? = some zeroEx) := Lib.hid (by obtain ⟨m, rfl⟩ := hd12.trans hd3; exact heap_alloc_new w _)
  have HD3 := Lib.hid (hd12.trans hd3)
  clear hd3 h54 hd12 hd2 hd1 c0 c1 c2 c3
  obtain ⟨c0, c1, c2, c3⟩ := hP.cell
  have f1 := hP.frz 1
  have f3 := hP.frz 3
  obtain ⟨g, cap, rfl, _, hn1, hm1, k0, k1, k2, k3⟩ := hP.here Ht.out
  have lg : g < w3.heap.size := World.block_lt_of_cell? w3 _ k0
  obtain ⟨⟨r0, r1, r2, r3, r4⟩, ⟨z0, z1, z2, z3, z4⟩, hrl⟩ := block5 Hr3.out
  have hwp : ¬ w.heap.size = p := by omega
  have hpw : ¬ p = w.heap.size := by omega
  have hS := hP.small
  have hvr := Lib.hid (own_ne hP.own Hr3.out (by decide))
  have hgp : g ≠ p := by
    intro e; subst e
    have := hP.vp; simp [Value.ownBlock] at this
  have HP5 := Lib.hid ((hP.setN (n + 1) hn1k).setI (i + 1) hlt)
  have HG5 := Lib.hid (grownBy_set (grownBy_set Hg3.out 3 (.int .i64 (n + 1 : Nat))) 1 (.int .i64 (i + 1 : Nat)))
  go_wp2_with fail
  refine (f53_yes 40 (HP5.out.alloc (.cells #[.int .i64 t.kind, .string ⟨t.text.toArray⟩, .int .i64 t.n, .int .i64 t.pos] 40)) HQ.out).mono ?_
  rintro en w6 ⟨rfl, h6, hg6⟩
  have HP6 := Lib.hid h6
  have HG6 := Lib.hid (grownBy_trans (grownBy_alloc HG5.out (.cells #[.int .i64 t.kind, .string ⟨t.text.toArray⟩, .int .i64 t.n, .int .i64 t.pos] 40)) hg6)
  have HR6 : Hid (w6.heap[w.heap.size]? = some zeroEx) := Lib.hid ((hg6.block _ (by simp [World.setCell]; omega) (fun e => by simp at e; omega)).trans ((Below.heap_alloc _ _ _ (by simp; exact hrl)).trans ((two_sets hwp).trans Hr3.out)))
  have HT6 : Hid (w6.heap[w3.heap.size]? = some (.cells #[.int .i64 t.kind, .string ⟨t.text.toArray⟩, .int .i64 t.n, .int .i64 t.pos] 40)) := Lib.hid ((hg6.block _ (by simp [World.setCell]) (fun e => by simp at e; omega)).trans (by have := heap_alloc_new ((w3.setCell ⟨p, 3, none⟩ (.int .i64 (n + 1 : Nat))).setCell ⟨p, 1, none⟩ (.int .i64 (i + 1 : Nat))) (.cells #[.int .i64 t.kind, .string ⟨t.text.toArray⟩, .int .i64 t.n, .int .i64 t.pos] 40); simpa [World.setCell] using this))
  clear h6 hg6 r0 r1 r2 r3 r4 z0 z1 z2 z3 z4 k0 k1 k2 k3 c0 c1 c2 c3 f1 f3
  have y1 : w6.cell? ⟨w3.heap.size, 1, none⟩ = some (.string ⟨t.text.toArray⟩) := by rw [Lib.cell_of_heap HT6.out]; rfl
  go_wp2_with fail
  go_loopw [81] (fun _ wr => ArgsAt B p (.slice (some ⟨g, 0, none⟩) ts.length cap) ts e w w6.heap.size t.text d k r wr) (fun _ wr => ts.length - posOf p wr)
  case atStart =>
    exact ⟨i + 1 + 1, n + 1, [], [], .slice none 0 0, HP6.out.alloc _, heap_alloc_new w6 _, (Below.heap_alloc w6 _ _ (Array.getElem?_eq_some_iff.1 HR6.out).1).trans HR6.out, World.ownsRow_nil _ _ _ _, RXs_nil, by simp [Value.ownBlock], by simp [Value.ownBlock], grownBy_alloc HG6.out _,
      by rw [HL2.out]; exact HX.out, by rw [HL2.out]; exact hl, by simp⟩
  case round =>
    have hT6 : w.heap.size < w6.heap.size := (Array.getElem?_eq_some_iff.1 HR6.out).1
    have hTp : ¬ w6.heap.size = p := by omega
    have hTR : ¬ w6.heap.size = w.heap.size := by omega
    have hRT : ¬ w.heap.size = w6.heap.size := by omega
    clear y1 HP6 HG6 HR6 HT6 HX HL2 HQ Hg3 Hr3 HD3 HP5 HG5 Ht hvr
    obtain ⟨i', n', acc, cells, av, hps, hTb, hRb, ho, hxs, hvT, hvR, hg, hpx, hlk, hai⟩ := hrel
    have HTb := Lib.hid hTb; clear hTb
    have HRb := Lib.hid hRb; clear hRb
    have Ho := Lib.hid ho; clear ho
    have Hxs := Lib.hid hxs; clear hxs
    have HvT := Lib.hid hvT; clear hvT
    have HvR := Lib.hid hvR; clear hvR
    have Hg := Lib.hid hg; clear hg
    have Hps := Lib.hid hps.posOf
    have hsm := hps.small
    have hle := hps.le
    obtain ⟨aa, ac, rfl⟩ := own_form Ho.out
    generalize hL : ts.drop i' = L at hpx hlk
    have HL := Lib.hid hL; clear hL
    cases hpx with
    | @done _ _ _ t' l' ht' =>
      as_aux_lemma =>
      go_wp2_with fail
      refine (f53_yes 41 hps (by rw [HL.out]; exact ht')).mono ?_
      rintro en w8 ⟨rfl, h8, hg8⟩
      have HP8 := Lib.hid h8
      have HG8 := Lib.hid (grownBy_trans Hg.out hg8)
      have HG8b := Lib.hid hg8
      have HT8 : Hid (w8.heap[w6.heap.size]? = _) := Lib.hid ((hg8.block _ (Array.getElem?_eq_some_iff.1 HTb.out).1 (fun e => by simp at e; omega)).trans HTb.out)
      have HR8 : Hid (w8.heap[w.heap.size]? = _) := Lib.hid ((hg8.block _ (Array.getElem?_eq_some_iff.1 HRb.out).1 (fun e => by simp at e; omega)).trans HRb.out)
      clear h8 hg8
      obtain ⟨⟨x0, x1, x2, x3, x4⟩, _, _⟩ := block5 HT8.out
      obtain ⟨⟨r0, r1, r2, r3, r4⟩, ⟨z0, z1, z2, z3, z4⟩, hrl8⟩ := block5 HR8.out
      go_wp2_with fail
      have HF := put5 HR8.out (.int .i64 3) (.string ⟨t.text.toArray⟩) (.int .i64 0) (.slice none 0 0) (.slice aa acc.length ac)
      obtain ⟨⟨q0, q1, q2, q3, q4⟩, _, _⟩ := block5 HF
      have hvr8 := Lib.hid (own_ne HP8.out.own HR8.out (by decide))
      refine bodyPost_ret (v := .agg #[.int .i64 3, .string ⟨t.text.toArray⟩, .int .i64 0, .slice none 0 0, .slice aa acc.length ac]) (by simp [results, Tryd.results27, go_sem, q0, q1, q2, q3, q4]) rfl ?_
      refine expr_ok (x := .mk 3 t.text 0 [] acc) ⟨_, _, rfl, RInts_nil, ?_⟩ (((((HP8.out.setO _ _ hwp hvr8.out).setO _ _ hwp hvr8.out).setO _ _ hwp hvr8.out).setO _ _ hwp hvr8.out).setO _ _ hwp hvr8.out) (drop_next HL.out)
        (grownBy_setNew (grownBy_setNew (grownBy_setNew (grownBy_setNew (grownBy_setNew HG8.out (Nat.le_refl _) _ _) (Nat.le_refl _) _ _) (Nat.le_refl _) _ _) (Nat.le_refl _) _ _) (Nat.le_refl _) _ _)
      refine RArgs_own (own_set (own_set (own_set (own_set (own_set (own_moved Ho.out HG8b.out hps.hp (by decide)) HvR.out) HvR.out) HvR.out) HvR.out) HvR.out)
        (RXs_mono (fun b o u hb hu => ⟨by omega, ?_⟩) acc _ _ (fun _ _ h => h) Hxs.out) (fun b hb => hb)
      rw [cell_put5 (by omega)]
      exact cell_moved HG8b.out (by omega) hu
    | sep ht' hs' =>
      as_aux_lemma =>
      obtain ⟨hpos, h44⟩ := sep_none hs'
      clear hs'
      obtain ⟨⟨x0, x1, x2, x3, x4⟩, _, _⟩ := block5 HTb.out
      go_wp2_with fail
      refine (f53_no 41 hps (by rw [HL.out]; exact ht')).mono ?_
      rintro en w8 ⟨rfl, m8, rfl⟩
      have h56 := f56_no 44 (hps.drewN m8) (by rw [HL.out]; exact h44)
      rw [HL.out] at h56
      go_wp2_with fail
      refine h56.mono ?_
      rintro en w9 ⟨rfl, hd9⟩
      exact ⟨rfl, args_err (grownBy_trans (grownBy_trans Hg.out (grownBy_drw ⟨m8, rfl⟩)) (grownBy_drw hd9))⟩
    | @arg _ _ n2 _ x _ l1 l2 _ ht' hs' hx' hr' =>
      rcases sep_some hs' with ⟨hacc, hl1⟩ | ⟨hpos, h44, rfl⟩
      · skip
        have hpos : ¬ 0 < acc.length := by simp [hacc]
        rw [hl1] at hx'
        have hHR := Lib.hid hr'; clear hr'
        have hHX := Lib.hid hx'; clear hx' hs' hacc hl1
        obtain ⟨⟨x0, x1, x2, x3, x4⟩, ⟨y0, y1, y2, y3, y4⟩, hTl⟩ := block5 HTb.out
        go_wp2_with fail
        refine (f53_no 41 hps (by rw [HL.out]; exact ht')).mono ?_
        rintro en w9 ⟨rfl, hd9⟩
        have hg9' := grownBy_drw (p := p) hd9
        have HP9 := Lib.hid (hps.drew hd9)
        have HG9 := Lib.hid (grownBy_trans Hg.out hg9')
        have HT9 : Hid (w9.heap[w6.heap.size]? = _) := Lib.hid ((hg9'.block _ (Array.getElem?_eq_some_iff.1 HTb.out).1 (fun e => by simp at e; omega)).trans HTb.out)
        have HR9 : Hid (w9.heap[w.heap.size]? = _) := Lib.hid ((hg9'.block _ (Array.getElem?_eq_some_iff.1 HRb.out).1 (fun e => by simp at e; omega)).trans HRb.out)
        have Ho9 := Lib.hid (own_moved Ho.out hg9' hps.hp (by decide))
        have Hx9 : Hid (RXs (fun b => w.heap.size < b ∧ b ≠ w6.heap.size ∧ some b ≠ (Value.slice aa acc.length ac).ownBlock) w9 acc (fun j => cells[j]?)) := Lib.hid (RXs_mono (fun b o u hb hu => ⟨hb, cell_moved hg9' (by omega) hu⟩) acc _ _ (fun _ _ h => h) Hxs.out)
        have HL9 : Hid (ts.drop i' = L) := HL
        clear hd9 hg9' x0 x1 x2 x3 x4 y0 y1 y2 y3 y4 hTl
        obtain ⟨⟨x0, x1, x2, x3, x4⟩, ⟨y0, y1, y2, y3, y4⟩, hTl⟩ := block5 HT9.out
        go_wp2_with fail
        have hwr : IntKind.i64.wrap ((d : Int) + 1) = (d : Int) + 1 := IntWalk.i64_in _ (by omega)
        have HIc : Hid (Calls Tryd.prog 27 #[.pointer (some ⟨p, 0, none⟩), .int .i64 ((d : Int) + 1)] w9.drew (ExprPost B w9.drew p (.slice (some ⟨g, 0, none⟩) ts.length cap) ts e (.ok [x] n2 l2))) := Lib.hid (by
          have := IH (d + 1) n' i' _ w9.drew (by rw [HL9.out]; have := hlk; simp; omega) (by omega) (HP9.out.drewN 1) (by rw [HL9.out]; exact hHX.out)
          exact this)
        obtain ⟨ie, hie, he0, he1, he2⟩ := info_parts exInfo
        have HAC : Hid (∀ w10, w9.drew.grownBy w10 (some p) → w10.cell? ⟨w6.heap.size, 4, none⟩ = some (.slice aa acc.length ac) ∧ Hid (w10.heap[w6.heap.size]? = some (.cells #[.int .i64 3, strV t.text, .int .i64 0, .slice none 0 0, .slice aa acc.length ac] 26 (0, 0))) ∧ w6.heap.size < w10.heap.size ∧ w9.heap.size ≤ w10.heap.size ∧ Hid (w10.ownsRow w.heap.size 26 5 (.slice aa acc.length ac) acc.length cells)) := Lib.hid (fun w10 hg10 => by
          have hT10 : w10.heap[w6.heap.size]? = some (.cells #[.int .i64 3, strV t.text, .int .i64 0, .slice none 0 0, .slice aa acc.length ac] 26 (0, 0)) := (hg10.block _ hTl (fun e => hTp (by simpa using e))).trans HT9.out
          exact ⟨(block5 hT10).1.2.2.2.2, Lib.hid hT10, (Array.getElem?_eq_some_iff.1 hT10).1, hg10.size, Lib.hid (own_moved (show w9.drew.ownsRow w.heap.size 26 5 (.slice aa acc.length ac) acc.length cells from Ho9.out) hg10 (show w9.drew.heap[p]? = _ from HP9.out.hp) (by decide))⟩)
        have HAP : Hid (∀ (w10 w11 : World) (o : Obj), w10.heap[w6.heap.size]? = some (.cells #[.int .i64 3, strV t.text, .int .i64 0, .slice none 0 0, .slice aa acc.length ac] 26 (0, 0)) → (w10.alloc o).grownBy w11 (Value.slice aa acc.length ac).ownBlock → w11.cell? ⟨w6.heap.size, 4, none⟩ = some (.slice aa acc.length ac) ∧ w11.frozen? ⟨w6.heap.size, 4, none⟩ = false) := Lib.hid (fun w10 w11 o hT hg => by
          have hl := (Array.getElem?_eq_some_iff.1 hT).1
          have hT11 : w11.heap[w6.heap.size]? = some (.cells #[.int .i64 3, strV t.text, .int .i64 0, .slice none 0 0, .slice aa acc.length ac] 26 (0, 0)) := (hg.block _ (by simp; omega) (fun e => HvT.out e.symm)).trans ((Below.heap_alloc _ _ _ hl).trans hT)
          exact ⟨(block5 hT11).1.2.2.2.2, (block5 hT11).2.1.2.2.2.2⟩)
        have hac5 : acc.length + 1 ≤ maxLen := by unfold maxLen; omega
        have hac80 : (acc.length + 1) * 80 ≤ 140737488355328 := by omega
        have hbase : w.heap.size ≤ w9.heap.size := HG9.out.size
        clear hTl
        
        go_region_law ((first
          | (refine step_callF 27 _ _ _ (.pointer (some ⟨p, 0, none⟩)) (.int .i64 ((d : Int) + 1)) rfl rfl rfl rfl H27 HIc.out ?_; rintro en w10 ⟨x', cs, i2, hxe, rfl, ⟨lv, av2, rfl, hri, hra⟩, h10, hd10, hg10⟩; obtain ⟨la, lc, rfl⟩ := RInts_form hri; obtain ⟨ba, bc, rfl⟩ := RArgs_form hra; have HX10 := Lib.hid (And.intro hri hra); have HE10 := Lib.hid hxe; have HP10 := Lib.hid h10; have HD10 := Lib.hid hd10; have HG10 := Lib.hid hg10; clear hri hra hxe h10 hd10; obtain ⟨X10, T10, L10, S10, O10⟩ := HAC.out w10 hg10; dsimp only)
          | (refine step_append_lies _ rfl _ _ _ rfl w.heap.size 26 ie _ 5 80 Tryd.underlying24 hie he0 he1 he2 rfl (by decide) (.slice aa acc.length ac) acc.length cells rfl (O10.out.alloc _) ⟨w10.heap.size, 0, none⟩ 1 1 [.int .i64 x'.kind, strV x'.name, .int .i64 x'.n, .slice la x'.list.length lc, .slice ba x'.args.length bc] rfl rfl (fun j u hj => cells_new w10 _ 26 j u hj) ?h1 (by decide) hac5 hac80 ?hb (w10.heap.size + 1) ?hs ?_; (case h1 => (intro u hu; simp only [List.mem_cons, List.not_mem_nil, or_false] at hu; rcases hu with rfl | rfl | rfl | rfl | rfl <;> rfl)); (case hb => simp; omega); (case hs => simp); intro gg cc w11 hown11 hgrow hat hlt11; obtain ⟨X11, Y11⟩ := HAP.out w10 w11 _ T10.out hgrow; have HW11 := Lib.hid (And.intro hown11 (And.intro hgrow hat)); clear hown11 hgrow hat)))
        all_goals
          go_wp2_with fail
          obtain ⟨hown11, hgrow, hat⟩ := HW11.out
          have hxx : x' = x := by have := HE10.out; simp at this; exact this.symm
          subst hxx
          have hi2 : acc.length + 1 ≤ i2 := by
            have h1 := hHX.out.shorter _ _ _ rfl
            have h2 := HD10.out
            have h3 := HP10.out.le
            have h4 : (ts.drop i2).length = ts.length - i2 := List.length_drop
            have h5 : (ts.drop i').length = ts.length - i' := List.length_drop
            rw [h2] at h4; rw [HL.out] at h5
            omega
          obtain ⟨hA, hB⟩ := args_next (T := w6.heap.size) (nm := t.text) (d := d) (k := k) (r := r) hT6 hlp HP9.out HG9.out HT9.out HR9.out Ho9.out Hx9.out HvT.out HvR.out HG10.out HP10.out HD10.out ⟨_, _, rfl, HX10.out.1, HX10.out.2⟩ hown11 hgrow hat hHR.out (by have h1 := hHX.out.shorter _ _ _ rfl; omega) hi2
          refine ⟨hA, ?_⟩
          rw [hB, Hps.out]
          have h1 := hHX.out.shorter _ _ _ rfl
          have h2 := HD10.out
          have h3 := HP10.out.le
          have h4 : (ts.drop i2).length = ts.length - i2 := List.length_drop
          have h5 : (ts.drop i').length = ts.length - i' := List.length_drop
          rw [h2] at h4; rw [HL.out] at h5
          omega
      · skip
        have hHR := Lib.hid hr'; clear hr'
        have hHX := Lib.hid hx'; clear hx' hs'
        obtain ⟨⟨x0, x1, x2, x3, x4⟩, ⟨y0, y1, y2, y3, y4⟩, hTl⟩ := block5 HTb.out
        go_wp2_with fail
        refine (f53_no 41 hps (by rw [HL.out]; exact ht')).mono ?_
        rintro en w8 ⟨rfl, m8, rfl⟩
        have h56 := f56_yes 44 (hps.drewN m8) (by rw [HL.out]; exact h44)
        go_wp2_with fail
        refine h56.mono ?_
        rintro en w9 ⟨rfl, h9, hg9⟩
        have hg9' := grownBy_trans (grownBy_drw ⟨m8, rfl⟩) hg9
        have HP9 := Lib.hid h9
        have HG9 := Lib.hid (grownBy_trans Hg.out hg9')
        have HT9 : Hid (w9.heap[w6.heap.size]? = _) := Lib.hid ((hg9'.block _ (Array.getElem?_eq_some_iff.1 HTb.out).1 (fun e => by simp at e; omega)).trans HTb.out)
        have HR9 : Hid (w9.heap[w.heap.size]? = _) := Lib.hid ((hg9'.block _ (Array.getElem?_eq_some_iff.1 HRb.out).1 (fun e => by simp at e; omega)).trans HRb.out)
        have Ho9 := Lib.hid (own_moved Ho.out hg9' hps.hp (by decide))
        have Hx9 : Hid (RXs (fun b => w.heap.size < b ∧ b ≠ w6.heap.size ∧ some b ≠ (Value.slice aa acc.length ac).ownBlock) w9 acc (fun j => cells[j]?)) := Lib.hid (RXs_mono (fun b o u hb hu => ⟨hb, cell_moved hg9' (by omega) hu⟩) acc _ _ (fun _ _ h => h) Hxs.out)
        have HL9 : Hid (ts.drop (i' + 1) = L.tail) := Lib.hid (by rw [← List.tail_drop, HL.out])
        clear h9 hg9 hg9' h56 x0 x1 x2 x3 x4 y0 y1 y2 y3 y4 hTl
        obtain ⟨⟨x0, x1, x2, x3, x4⟩, ⟨y0, y1, y2, y3, y4⟩, hTl⟩ := block5 HT9.out
        go_wp2_with fail
        have hwr : IntKind.i64.wrap ((d : Int) + 1) = (d : Int) + 1 := IntWalk.i64_in _ (by omega)
        have HIc : Hid (Calls Tryd.prog 27 #[.pointer (some ⟨p, 0, none⟩), .int .i64 ((d : Int) + 1)] w9.drew (ExprPost B w9.drew p (.slice (some ⟨g, 0, none⟩) ts.length cap) ts e (.ok [x] n2 l2))) := Lib.hid (by
          have := IH (d + 1) n' (i' + 1) _ w9.drew (by rw [HL9.out]; have := hlk; simp; omega) (by omega) (HP9.out.drewN 1) (by rw [HL9.out]; exact hHX.out)
          exact this)
        obtain ⟨ie, hie, he0, he1, he2⟩ := info_parts exInfo
        have HAC : Hid (∀ w10, w9.drew.grownBy w10 (some p) → w10.cell? ⟨w6.heap.size, 4, none⟩ = some (.slice aa acc.length ac) ∧ Hid (w10.heap[w6.heap.size]? = some (.cells #[.int .i64 3, strV t.text, .int .i64 0, .slice none 0 0, .slice aa acc.length ac] 26 (0, 0))) ∧ w6.heap.size < w10.heap.size ∧ w9.heap.size ≤ w10.heap.size ∧ Hid (w10.ownsRow w.heap.size 26 5 (.slice aa acc.length ac) acc.length cells)) := Lib.hid (fun w10 hg10 => by
          have hT10 : w10.heap[w6.heap.size]? = some (.cells #[.int .i64 3, strV t.text, .int .i64 0, .slice none 0 0, .slice aa acc.length ac] 26 (0, 0)) := (hg10.block _ hTl (fun e => hTp (by simpa using e))).trans HT9.out
          exact ⟨(block5 hT10).1.2.2.2.2, Lib.hid hT10, (Array.getElem?_eq_some_iff.1 hT10).1, hg10.size, Lib.hid (own_moved (show w9.drew.ownsRow w.heap.size 26 5 (.slice aa acc.length ac) acc.length cells from Ho9.out) hg10 (show w9.drew.heap[p]? = _ from HP9.out.hp) (by decide))⟩)
        have HAP : Hid (∀ (w10 w11 : World) (o : Obj), w10.heap[w6.heap.size]? = some (.cells #[.int .i64 3, strV t.text, .int .i64 0, .slice none 0 0, .slice aa acc.length ac] 26 (0, 0)) → (w10.alloc o).grownBy w11 (Value.slice aa acc.length ac).ownBlock → w11.cell? ⟨w6.heap.size, 4, none⟩ = some (.slice aa acc.length ac) ∧ w11.frozen? ⟨w6.heap.size, 4, none⟩ = false) := Lib.hid (fun w10 w11 o hT hg => by
          have hl := (Array.getElem?_eq_some_iff.1 hT).1
          have hT11 : w11.heap[w6.heap.size]? = some (.cells #[.int .i64 3, strV t.text, .int .i64 0, .slice none 0 0, .slice aa acc.length ac] 26 (0, 0)) := (hg.block _ (by simp; omega) (fun e => HvT.out e.symm)).trans ((Below.heap_alloc _ _ _ hl).trans hT)
          exact ⟨(block5 hT11).1.2.2.2.2, (block5 hT11).2.1.2.2.2.2⟩)
        have hac5 : acc.length + 1 ≤ maxLen := by unfold maxLen; omega
        have hac80 : (acc.length + 1) * 80 ≤ 140737488355328 := by omega
        have hbase : w.heap.size ≤ w9.heap.size := HG9.out.size
        clear hTl
        
        go_region_law ((first
          | (refine step_callF 27 _ _ _ (.pointer (some ⟨p, 0, none⟩)) (.int .i64 ((d : Int) + 1)) rfl rfl rfl rfl H27 HIc.out ?_; rintro en w10 ⟨x', cs, i2, hxe, rfl, ⟨lv, av2, rfl, hri, hra⟩, h10, hd10, hg10⟩; obtain ⟨la, lc, rfl⟩ := RInts_form hri; obtain ⟨ba, bc, rfl⟩ := RArgs_form hra; have HX10 := Lib.hid (And.intro hri hra); have HE10 := Lib.hid hxe; have HP10 := Lib.hid h10; have HD10 := Lib.hid hd10; have HG10 := Lib.hid hg10; clear hri hra hxe h10 hd10; obtain ⟨X10, T10, L10, S10, O10⟩ := HAC.out w10 hg10; dsimp only)
          | (refine step_append_lies _ rfl _ _ _ rfl w.heap.size 26 ie _ 5 80 Tryd.underlying24 hie he0 he1 he2 rfl (by decide) (.slice aa acc.length ac) acc.length cells rfl (O10.out.alloc _) ⟨w10.heap.size, 0, none⟩ 1 1 [.int .i64 x'.kind, strV x'.name, .int .i64 x'.n, .slice la x'.list.length lc, .slice ba x'.args.length bc] rfl rfl (fun j u hj => cells_new w10 _ 26 j u hj) ?h1 (by decide) hac5 hac80 ?hb (w10.heap.size + 1) ?hs ?_; (case h1 => (intro u hu; simp only [List.mem_cons, List.not_mem_nil, or_false] at hu; rcases hu with rfl | rfl | rfl | rfl | rfl <;> rfl)); (case hb => simp; omega); (case hs => simp); intro gg cc w11 hown11 hgrow hat hlt11; obtain ⟨X11, Y11⟩ := HAP.out w10 w11 _ T10.out hgrow; have HW11 := Lib.hid (And.intro hown11 (And.intro hgrow hat)); clear hown11 hgrow hat)))
        all_goals
          go_wp2_with fail
          obtain ⟨hown11, hgrow, hat⟩ := HW11.out
          have hxx : x' = x := by have := HE10.out; simp at this; exact this.symm
          subst hxx
          have hi2 : acc.length + 1 ≤ i2 := by
            have h1 := hHX.out.shorter _ _ _ rfl
            have h2 := HD10.out
            have h3 := HP10.out.le
            have h4 : (ts.drop i2).length = ts.length - i2 := List.length_drop
            have h5 : (ts.drop i').length = ts.length - i' := List.length_drop
            rw [h2] at h4; rw [HL.out] at h5
            (have h6 : L.tail.length = L.length - 1 := List.length_tail); omega
          obtain ⟨hA, hB⟩ := args_next (T := w6.heap.size) (nm := t.text) (d := d) (k := k) (r := r) hT6 hlp HP9.out HG9.out HT9.out HR9.out Ho9.out Hx9.out HvT.out HvR.out HG10.out HP10.out HD10.out ⟨_, _, rfl, HX10.out.1, HX10.out.2⟩ hown11 hgrow hat hHR.out (by have h1 := hHX.out.shorter _ _ _ rfl; (have h6 : L.tail.length = L.length - 1 := List.length_tail); omega) hi2
          refine ⟨hA, ?_⟩
          rw [hB, Hps.out]
          have h1 := hHX.out.shorter _ _ _ rfl
          have h2 := HD10.out
          have h3 := HP10.out.le
          have h4 : (ts.drop i2).length = ts.length - i2 := List.length_drop
          have h5 : (ts.drop i').length = ts.length - i' := List.length_drop
          rw [h2] at h4; rw [HL.out] at h5
          (have h6 : L.tail.length = L.length - 1 := List.length_tail); omega
    | @argErr _ _ _ _ l1 l2 c ht' hs' hx' =>
      rcases sep_some hs' with ⟨hacc, hl1⟩ | ⟨hpos, h44, rfl⟩
      · as_aux_lemma =>
        have hpos : ¬ 0 < acc.length := by simp [hacc]
        rw [hl1] at hx'
        have hHX := Lib.hid hx'; clear hx' hs' hacc hl1
        obtain ⟨⟨x0, x1, x2, x3, x4⟩, ⟨y0, y1, y2, y3, y4⟩, hTl⟩ := block5 HTb.out
        go_wp2_with fail
        refine (f53_no 41 hps (by rw [HL.out]; exact ht')).mono ?_
        rintro en w9 ⟨rfl, hd9⟩
        have hg9' := grownBy_drw (p := p) hd9
        have HP9 := Lib.hid (hps.drew hd9)
        have HG9 := Lib.hid (grownBy_trans Hg.out hg9')
        have HT9 : Hid (w9.heap[w6.heap.size]? = _) := Lib.hid ((hg9'.block _ (Array.getElem?_eq_some_iff.1 HTb.out).1 (fun e => by simp at e; omega)).trans HTb.out)
        have HL9 : Hid (ts.drop i' = L) := HL
        clear hd9 hg9' x0 x1 x2 x3 x4 y0 y1 y2 y3 y4 hTl
        obtain ⟨⟨x0, x1, x2, x3, x4⟩, ⟨y0, y1, y2, y3, y4⟩, hTl⟩ := block5 HT9.out
        go_wp2_with fail
        have hwr : IntKind.i64.wrap ((d : Int) + 1) = (d : Int) + 1 := IntWalk.i64_in _ (by omega)
        have HIc : Hid (Calls Tryd.prog 27 #[.pointer (some ⟨p, 0, none⟩), .int .i64 ((d : Int) + 1)] w9.drew (ExprPost B w9.drew p (.slice (some ⟨g, 0, none⟩) ts.length cap) ts e (.err c l2))) := Lib.hid (by
          have := IH (d + 1) n' i' _ w9.drew (by rw [HL9.out]; have := hlk; simp; omega) (by omega) (HP9.out.drewN 1) (by rw [HL9.out]; exact hHX.out)
          exact this)
        have HEND : Hid (∀ w10, w9.drew.grownBy w10 (some p) → ArgsPost B p (.slice (some ⟨g, 0, none⟩) ts.length cap) ts e w t.text (.err c l2) (faultE c (posT e l2 : Nat)) w10) := Lib.hid (fun w10 h => args_err (grownBy_trans HG9.out (grownBy_trans (grownBy_drw ⟨1, rfl⟩) h)))
        refine wp_region_any (by kernel_rfl) ?_
        change wpAny _ _ _ _ _ _ _ (World.drew _)
        refine wpAny_take (i := 0) (v := ?_) rfl (by kernel_rfl) (by kernel_rfl) (by kernel_rfl) (fun _ _ _ h => h) (Or.inl ⟨by rfl, ?_⟩) ?_
        rotate_left 1
        · intro w; go_simp; try with_reducible rfl
        refine wpAny_take (i := 2) (v := ?_) rfl (by kernel_rfl) (by kernel_rfl) (by kernel_rfl) (fun _ _ _ h => h) (Or.inl ⟨by rfl, ?_⟩) ?_
        rotate_left 1
        · intro w; go_simp; try with_reducible rfl
        refine wpAny_take (i := 3) (v := ?_) rfl (by kernel_rfl) (by kernel_rfl) (by kernel_rfl) (fun _ _ _ h => h) (Or.inl ⟨by rfl, ?_⟩) ?_
        rotate_left 1
        · intro w; go_simp; try with_reducible rfl
        refine wpAny_take (i := 4) (v := ?_) rfl (by kernel_rfl) (by kernel_rfl) (by kernel_rfl) (fun _ _ _ h => h) (Or.inl ⟨by rfl, ?_⟩) ?_
        rotate_left 1
        · intro w; go_simp; try with_reducible rfl
        refine wpAny_ready (rs := [1, 5]) (by kernel_rfl) (by simp) ?_
        refine AllReady.cons rfl (fun K hK => ?_) ?_
        · go_simp
          refine hK _ _ ?_
          clear hK K
          refine wpAny_ready (rs := [5]) (by kernel_rfl) (by simp) ?_
          refine AllReady.cons rfl (fun K hK => ?_) AllReady.nil
          refine step_callF 27 _ _ _ (.pointer (some ⟨p, 0, none⟩)) (.int .i64 ((d : Int) + 1)) rfl rfl rfl rfl H27 HIc.out ?_
          rintro en w10 ⟨rfl, hg10⟩
          exact ⟨rfl, HEND.out w10 hg10⟩
        · refine AllReady.cons rfl (fun K hK => ?_) AllReady.nil
          refine step_callF 27 _ _ _ (.pointer (some ⟨p, 0, none⟩)) (.int .i64 ((d : Int) + 1)) rfl rfl rfl rfl H27 HIc.out ?_
          rintro en w10 ⟨rfl, hg10⟩
          exact ⟨rfl, HEND.out w10 hg10⟩
      · as_aux_lemma =>
        have hHX := Lib.hid hx'; clear hx' hs'
        obtain ⟨⟨x0, x1, x2, x3, x4⟩, ⟨y0, y1, y2, y3, y4⟩, hTl⟩ := block5 HTb.out
        go_wp2_with fail
        refine (f53_no 41 hps (by rw [HL.out]; exact ht')).mono ?_
        rintro en w8 ⟨rfl, m8, rfl⟩
        have h56 := f56_yes 44 (hps.drewN m8) (by rw [HL.out]; exact h44)
        go_wp2_with fail
        refine h56.mono ?_
        rintro en w9 ⟨rfl, h9, hg9⟩
        have hg9' := grownBy_trans (grownBy_drw ⟨m8, rfl⟩) hg9
        have HP9 := Lib.hid h9
        have HG9 := Lib.hid (grownBy_trans Hg.out hg9')
        have HT9 : Hid (w9.heap[w6.heap.size]? = _) := Lib.hid ((hg9'.block _ (Array.getElem?_eq_some_iff.1 HTb.out).1 (fun e => by simp at e; omega)).trans HTb.out)
        have HL9 : Hid (ts.drop (i' + 1) = L.tail) := Lib.hid (by rw [← List.tail_drop, HL.out])
        clear h9 hg9 hg9' h56 x0 x1 x2 x3 x4 y0 y1 y2 y3 y4 hTl
        obtain ⟨⟨x0, x1, x2, x3, x4⟩, ⟨y0, y1, y2, y3, y4⟩, hTl⟩ := block5 HT9.out
        go_wp2_with fail
        have hwr : IntKind.i64.wrap ((d : Int) + 1) = (d : Int) + 1 := IntWalk.i64_in _ (by omega)
        have HIc : Hid (Calls Tryd.prog 27 #[.pointer (some ⟨p, 0, none⟩), .int .i64 ((d : Int) + 1)] w9.drew (ExprPost B w9.drew p (.slice (some ⟨g, 0, none⟩) ts.length cap) ts e (.err c l2))) := Lib.hid (by
          have := IH (d + 1) n' (i' + 1) _ w9.drew (by rw [HL9.out]; have := hlk; simp; omega) (by omega) (HP9.out.drewN 1) (by rw [HL9.out]; exact hHX.out)
          exact this)
        have HEND : Hid (∀ w10, w9.drew.grownBy w10 (some p) → ArgsPost B p (.slice (some ⟨g, 0, none⟩) ts.length cap) ts e w t.text (.err c l2) (faultE c (posT e l2 : Nat)) w10) := Lib.hid (fun w10 h => args_err (grownBy_trans HG9.out (grownBy_trans (grownBy_drw ⟨1, rfl⟩) h)))
        refine wp_region_any (by kernel_rfl) ?_
        change wpAny _ _ _ _ _ _ _ (World.drew _)
        refine wpAny_take (i := 0) (v := ?_) rfl (by kernel_rfl) (by kernel_rfl) (by kernel_rfl) (fun _ _ _ h => h) (Or.inl ⟨by rfl, ?_⟩) ?_
        rotate_left 1
        · intro w; go_simp; try with_reducible rfl
        refine wpAny_take (i := 2) (v := ?_) rfl (by kernel_rfl) (by kernel_rfl) (by kernel_rfl) (fun _ _ _ h => h) (Or.inl ⟨by rfl, ?_⟩) ?_
        rotate_left 1
        · intro w; go_simp; try with_reducible rfl
        refine wpAny_take (i := 3) (v := ?_) rfl (by kernel_rfl) (by kernel_rfl) (by kernel_rfl) (fun _ _ _ h => h) (Or.inl ⟨by rfl, ?_⟩) ?_
        rotate_left 1
        · intro w; go_simp; try with_reducible rfl
        refine wpAny_take (i := 4) (v := ?_) rfl (by kernel_rfl) (by kernel_rfl) (by kernel_rfl) (fun _ _ _ h => h) (Or.inl ⟨by rfl, ?_⟩) ?_
        rotate_left 1
        · intro w; go_simp; try with_reducible rfl
        refine wpAny_ready (rs := [1, 5]) (by kernel_rfl) (by simp) ?_
        refine AllReady.cons rfl (fun K hK => ?_) ?_
        · go_simp
          refine hK _ _ ?_
          clear hK K
          refine wpAny_ready (rs := [5]) (by kernel_rfl) (by simp) ?_
          refine AllReady.cons rfl (fun K hK => ?_) AllReady.nil
          refine step_callF 27 _ _ _ (.pointer (some ⟨p, 0, none⟩)) (.int .i64 ((d : Int) + 1)) rfl rfl rfl rfl H27 HIc.out ?_
          rintro en w10 ⟨rfl, hg10⟩
          exact ⟨rfl, HEND.out w10 hg10⟩
        · refine AllReady.cons rfl (fun K hK => ?_) AllReady.nil
          refine step_callF 27 _ _ _ (.pointer (some ⟨p, 0, none⟩)) (.int .i64 ((d : Int) + 1)) rfl rfl rfl rfl H27 HIc.out ?_
          rintro en w10 ⟨rfl, hg10⟩
          exact ⟨rfl, HEND.out w10 hg10⟩
end Go.Proofs.YtcaaadhhaanbcaaDoor
