/- An argument of the expression's type, opened: whatever reads as one is a finite tree. -/
import Derived.Test.YtcaaadhhaanbcaaDoorSz
import Derived.ChangeShapes
import Derived.ChangeArms
import Derived.DataReads
namespace Go.Proofs.YtcaaadhhaanbcaaDoor
open Go.RowKit Go.ChangeShapes Go.WideShapes

section
variable {H : Type} {enc : TypeId × Value → H} {W : World}

theorem open_ints {fuel : Nat} {v : Value} {x : DataW H × List MemPlace} (h : DataW.trod enc Tryd.prog W 0 (fun _ => true) true fuel 23 [v] = some x) : ∃ zs, RInts (Lt W.heap.size) W v zs := by
  rcases DataW.trod_slice Tryd.underlying23 h with ⟨hc, _⟩ | ⟨a, len, cap, elems, rest, n, _, hc, _, _, h1, h2, h3, h4, _⟩
  · simp at hc; subst hc; exact ⟨[], RInts_nil⟩
  · simp at hc; subst hc
    have hcell : ∀ i, i < len → ∃ z, W.cell? (a.add i) = some (.int .i64 z) := by
      intro i hi
      have h5 := h4 i hi
      rw [show Tryd.prog.cellsOf 3 = 1 by kernel_rfl, Nat.mul_one, List.getElem?_eq_getElem (by omega), Option.bind_eq_some_iff] at h5
      obtain ⟨cs, h6, h7⟩ := h5
      obtain ⟨z, rfl, _, _⟩ := DataW.trod_int Tryd.underlying3 h7
      obtain ⟨_, _, h8⟩ := World.cells?_some h6
      exact ⟨z, by have := h8 0 (by omega); simpa [Addr.add] using this⟩
    obtain ⟨b, off, spot⟩ := a
    refine ⟨(List.range len).map (fun i => match W.cell? ((⟨b, off, spot⟩ : Addr).add i) with | some (.int _ z) => z | _ => 0), some ⟨b, off, spot⟩, cap, by simp, by simpa using h1, h2, fun hne => ?_⟩
    have hpos : 0 < len := by
      rcases Nat.eq_zero_or_pos len with h | h
      · subst h; simp at hne
      · exact h
    obtain ⟨z0, hz0⟩ := hcell 0 hpos
    have hspot : spot = none := by simpa [Addr.add] using World.cell?_spot hz0
    subst hspot
    refine ⟨b, off, rfl, World.block_lt_of_cell? W _ hz0, fun j z hz => ?_⟩
    rw [List.getElem?_map] at hz
    rcases Nat.lt_or_ge j len with hj | hj
    · rw [List.getElem?_range hj] at hz
      obtain ⟨y, hy⟩ := hcell j hj
      simp only [Option.map_some, hy, Option.some.injEq] at hz
      subst hz
      rw [add_plain] at hy; exact hy
    · rw [List.getElem?_eq_none (by simpa using hj)] at hz; cases hz

theorem rxs_of {G : Nat → Prop} {w : World} : ∀ (len : Nat) (f : Nat → Option Value), (∀ i, i < len → ∃ X, RX G w X (fun j => f (j + i * 5))) → ∃ ag : List Ex, ag.length = len ∧ RXs G w ag f
  | 0, _, _ => ⟨[], rfl, RXs_nil⟩
  | len + 1, f, h => by
    obtain ⟨X, hX⟩ := h 0 (by omega)
    obtain ⟨ag, hl, ha⟩ := rxs_of len (fun j => f (j + 5)) (fun i hi => by
      obtain ⟨Y, hY⟩ := h (i + 1) (by omega)
      exact ⟨Y, by simpa [Nat.succ_mul, Nat.add_assoc] using hY⟩)
    exact ⟨X :: ag, by simp [hl], RXs_cons.2 ⟨by simpa using hX, ha⟩⟩

set_option maxRecDepth 100000 in
theorem open_exprs : ∀ (m fuel : Nat), fuel ≤ m → ∀ (cs : List Value) (x : DataW H × List MemPlace), DataW.trod enc Tryd.prog W 0 (fun _ => true) true fuel 26 cs = some x →
    ∃ X, RX (Lt W.heap.size) W X (fun i => cs[i]?)
  | 0, 0, _, cs, x, h => by simp [DataW.trod] at h
  | m + 1, fuel, hm, cs, x, h => by
    obtain ⟨xs, n, rfl, _, hl, hxl, hf⟩ := DataW.trod_struct Tryd.underlying26 h
    rw [show Tryd.prog.cellsOf 26 = 5 by kernel_rfl] at hl
    match cs, hl with
    | [c0, c1, c2, c3, c4], _ =>
    match xs, hxl with
    | [y0, y1, y2, y3, y4], _ =>
    have g0 := hf 0 _ rfl
    have g1 := hf 1 _ rfl
    have g2 := hf 2 _ rfl
    have g3 := hf 3 _ rfl
    have g4 := hf 4 _ rfl
    have t3 : Tryd.prog.cellsOf 3 = 1 := by kernel_rfl
    have t9 : Tryd.prog.cellsOf 9 = 1 := by kernel_rfl
    have t23 : Tryd.prog.cellsOf 23 = 1 := by kernel_rfl
    have t24 : Tryd.prog.cellsOf 24 = 1 := by kernel_rfl
    simp [t3, t9, t23, t24] at g0 g1 g2 g3 g4
    obtain ⟨k, e0, _, _⟩ := DataW.trod_int Tryd.underlying3 g0
    obtain ⟨s, e1, _, _⟩ := DataW.trod_string Tryd.underlying9 g1
    obtain ⟨z, e2, _, _⟩ := DataW.trod_int Tryd.underlying3 g2
    obtain rfl := (List.cons.inj e0).1
    obtain rfl := (List.cons.inj e1).1
    obtain rfl := (List.cons.inj e2).1
    obtain ⟨zs, hz⟩ := open_ints g3
    have ha : ∃ ag, RArgs (Lt W.heap.size) W c4 ag := by
      rcases DataW.trod_slice Tryd.underlying24 g4 with ⟨hc, _⟩ | ⟨a, len, cap, elems, rest, n', rfl, hc, _, _, h1, h2, h3, h4, _⟩
      · simp at hc; subst hc; exact ⟨[], RArgs_nil⟩
      · simp at hc; subst hc
        obtain ⟨b, off, spot⟩ := a
        have helem : ∀ i, i < len → ∃ (cs' : List Value) (X : Ex), RX (Lt W.heap.size) W X (fun i => cs'[i]?) ∧ cs'.length = 5 ∧ ∀ j, j < 5 → W.cell? (((⟨b, off, spot⟩ : Addr).add (i * 5)).add j) = cs'[j]? := by
          intro i hi
          have h5 := h4 i hi
          rw [show Tryd.prog.cellsOf 26 = 5 by kernel_rfl, List.getElem?_eq_getElem (by omega), Option.bind_eq_some_iff] at h5
          obtain ⟨cs', h6, h7⟩ := h5
          obtain ⟨X, hX⟩ := open_exprs m n' (by omega) cs' _ h7
          obtain ⟨_, hlen, h8⟩ := World.cells?_some h6
          exact ⟨cs', X, hX, hlen, h8⟩
        rcases Nat.eq_zero_or_pos len with h0 | hpos
        · subst h0; exact ⟨[], some ⟨b, off, spot⟩, cap, rfl, h1, h2, fun h => absurd rfl h⟩
        · obtain ⟨cs', X0, hX0, hl5, h8⟩ := helem 0 hpos
          have hz := (RX_iff.1 hX0).1
          have hc0 := h8 0 (by omega)
          rw [hz] at hc0
          have hspot : spot = none := by simpa [Addr.add] using World.cell?_spot hc0
          subst hspot
          have hx : ∀ i, i < len → ∃ X, RX (Lt W.heap.size) W X (fun j => W.cell? ⟨b, off + (j + i * 5), none⟩) := by
            intro i hi
            obtain ⟨cs', X, hX, hl5, h8⟩ := helem i hi
            refine ⟨X, RX_mono (fun b o v hb hv => ⟨hb, hv⟩) X _ _ (fun j v hj => ?_) hX⟩
            have hj5 : j < 5 := by rw [← hl5]; exact (List.getElem?_eq_some_iff.1 hj).1
            have := h8 j hj5
            rw [hj, add_plain, add_plain] at this
            rw [← this]; congr 2; omega
          obtain ⟨ag, hl, hr⟩ := rxs_of len (fun j => W.cell? ⟨b, off + j, none⟩) hx
          refine ⟨ag, some ⟨b, off, none⟩, cap, by rw [hl], by rw [hl]; exact h1, h2, fun hne => ?_⟩
          exact ⟨b, off, rfl, World.block_lt_of_cell? W _ hc0, hr⟩
    obtain ⟨ag, hag⟩ := ha
    refine ⟨.mk k s.data.toList z zs ag, RX_iff.2 ⟨rfl, rfl, rfl, ⟨c3, rfl, hz⟩, c4, rfl, hag⟩⟩

set_option maxRecDepth 100000 in
/-- What reads as an expression is one. -/
theorem open26 {base : Nat} {v : Value} {d : DataW H} {ps : List MemPlace} (hval : Value.okWide Tryd.prog W .any base 26 v) (h : DataW.Trod enc Tryd.prog W 0 (fun _ => true) true 26 v d ps) :
    ∃ X cs, v = .agg cs ∧ XV (Lt W.heap.size) W X cs := by
  obtain ⟨cs, rfl, hsz⟩ := okWide_struct Tryd.underlying26 hval
  obtain ⟨fuel, hf⟩ := h
  obtain ⟨X, hX⟩ := open_exprs fuel fuel (Nat.le_refl _) _ _ hf
  obtain ⟨cs', hxv, h5, hc⟩ := XV.of_rx hX
  refine ⟨X, cs, rfl, ?_⟩
  rw [show Tryd.prog.cellsOf 26 = 5 by kernel_rfl] at hsz
  have : cs = cs' := by
    apply Array.ext_getElem?
    intro i
    rcases Nat.lt_or_ge i 5 with hi | hi
    · rw [← hc i hi]; simp [Value.cells]
    · rw [Array.getElem?_eq_none (by omega), Array.getElem?_eq_none (by omega)]
  rw [this]; exact hxv
end
end Go.Proofs.YtcaaadhhaanbcaaDoor
