/- A derivation's steps as they are read; the plain text of a derivation. -/
import Derived.Test.YtneofdapleakpaaDoorDa
import Derived.ChangeShapes
import Derived.ChangeArms
import Derived.DataReads
import Derived.OpenShut
namespace Go.Proofs.YtneofdapleakpaaDoor
open Go.RowKit Go.ChangeShapes Go.WideShapes

structure St where
  rule : Int
  p : Int
  m : Int
  mda : Option Addr
  mdl : Nat
  mdc : Nat
  n : Int
  ga : Option Addr
  gl : Nat
  gc : Nat
  low : Int
  fa : Option Addr
  fc : Nat
  frm : List Int
  qata : Option Addr
  qatl : Nat
  qatc : Nat
  bp : Int
  bm : Int
  bda : Option Addr
  bdl : Nat
  bdc : Nat
  r0 : Int
  r1 : Int
  r2 : Int
  r3 : Int
  r4 : Int
  pta : Option Addr
  ptl : Nat
  ptc : Nat
  mua : Option Addr
  mul : Nat
  muc : Nat
  saa : Option Addr
  sal : Nat
  sac : Nat
  sca : Option Addr
  scl : Nat
  scc : Nat
  fr : Int
  tra : Option Addr
  trl : Nat
  trc : Nat
/-- Its cells. -/
abbrev St.cells (s : St) : Array Value := #[.int .i64 s.rule, .int .i64 s.p, .int .i64 s.m, .slice s.mda s.mdl s.mdc, .int .i64 s.n, .slice s.ga s.gl s.gc, .int .i64 s.low, .slice s.fa s.frm.length s.fc, .slice s.qata s.qatl s.qatc, .int .i64 s.bp, .int .i64 s.bm, .slice s.bda s.bdl s.bdc, .int .i64 s.r0, .int .i64 s.r1, .int .i64 s.r2, .int .i64 s.r3, .int .i64 s.r4, .slice s.pta s.ptl s.ptc, .slice s.mua s.mul s.muc, .slice s.saa s.sal s.sac, .slice s.sca s.scl s.scc, .int .i64 s.fr, .slice s.tra s.trl s.trc]
def rng (z : Int) : Prop := -9223372036854775808 ≤ z ∧ z ≤ 9223372036854775807
/-- v is a slice that reads as zs, in blocks below S. -/
def RI (S : Nat) (w : World) (v : Value) (zs : List Int) : Prop :=
  ∃ a cap, v = .slice a zs.length cap ∧ zs.length ≤ cap ∧ cap ≤ 9223372036854775807 ∧ ∀ j (h : j < zs.length), ∃ b o, a = some ⟨b, o, none⟩ ∧ b < S ∧ w.cell? ⟨b, o + j, none⟩ = some (.int .i64 zs[j]) ∧ rng zs[j]
theorem RI.later {S : Nat} {w w' : World} {v : Value} {zs : List Int} (h : RI S w v zs) (hb : Below S w w') : RI S w' v zs := by
  obtain ⟨a, cap, hv, h1, h2, h3⟩ := h
  refine ⟨a, cap, hv, h1, h2, fun j hj => ?_⟩
  obtain ⟨b, o, ha, hlt, hc, hr⟩ := h3 j hj
  exact ⟨b, o, ha, hlt, by rw [hb.cell hlt]; exact hc, hr⟩
/-- At ⟨b, o⟩ lies the step s. -/
structure StepAt (S : Nat) (w : World) (b o : Nat) (s : St) : Prop where
  lt : b < S
  cells : ∀ j v, s.cells[j]? = some v → w.cell? ⟨b, o + j, none⟩ = some v
  frm : RI S w (.slice s.fa s.frm.length s.fc) s.frm
  ranges : rng s.p ∧ rng s.m ∧ rng s.n ∧ rng s.low ∧ s.gl ≤ 9223372036854775807
theorem StepAt.later {S : Nat} {w w' : World} {b o : Nat} {s : St} (h : StepAt S w b o s) (hb : Below S w w') : StepAt S w' b o s :=
  ⟨h.lt, fun j v hv => by rw [hb.cell h.lt]; exact h.cells j v hv, h.frm.later hb, h.ranges⟩
/-- v is a slice of steps. -/
def RSt (S : Nat) (w : World) (v : Value) (l : List St) : Prop :=
  ∃ a cap, v = .slice a l.length cap ∧ l.length ≤ cap ∧ cap ≤ 9223372036854775807 ∧ ∀ i (h : i < l.length), ∃ b o, a = some ⟨b, o, none⟩ ∧ StepAt S w b (o + i * 23) l[i]
theorem RSt.later {S : Nat} {w w' : World} {v : Value} {l : List St} (h : RSt S w v l) (hb : Below S w w') : RSt S w' v l := by
  obtain ⟨a, cap, hv, h1, h2, h3⟩ := h
  refine ⟨a, cap, hv, h1, h2, fun j hj => ?_⟩
  obtain ⟨b, o, ha, hs⟩ := h3 j hj
  exact ⟨b, o, ha, hs.later hb⟩

section
variable {H : Type} {enc : TypeId × Value → H} {W : World}
abbrev Rd (n : Nat) (t : TypeId) (cs : List Value) (x : DataW H × List MemPlace) : Prop := DataW.trod enc Tryd.prog W 0 (fun _ => true) true n t cs = some x

theorem fieldOf {t : TypeId} {fs : Array Field} {fuel : Nat} {cs : List Value} {x : DataW H × List MemPlace} (ht : Tryd.prog.underlying t = some (.struct fs)) (h : Rd (enc := enc) (W := W) fuel t cs x) (i : Nat) (f : Field) (hf : fs[i]? = some f) :
    ∃ n y, Rd (enc := enc) (W := W) n f.type ((cs.drop f.offset).take (Tryd.prog.cellsOf f.type)) y := by
  obtain ⟨xs, m, _, _, _, hxl, hg⟩ := DataW.trod_struct ht h
  have hi : i < fs.size := (Array.getElem?_eq_some_iff.1 hf).1
  have := hg i f hf
  rw [List.getElem?_eq_getElem (by omega)] at this
  exact ⟨m, _, this⟩
theorem int_of {n : Nat} {c : Value} {y : DataW H × List MemPlace} (h : Rd (enc := enc) (W := W) n 3 [c] y) : ∃ z, c = .int .i64 z ∧ rng z := by
  obtain ⟨z, e, _, hw⟩ := DataW.trod_int Tryd.underlying3 h
  exact ⟨z, (List.cons.inj e).1, bounds_i64 hw⟩
theorem sl_of {n : Nat} {e t : TypeId} {c : Value} {y : DataW H × List MemPlace} (ht : Tryd.prog.underlying t = some (.slice e)) (h : Rd (enc := enc) (W := W) n t [c] y) : ∃ a l k, c = .slice a l k ∧ l ≤ k ∧ k ≤ 9223372036854775807 := by
  rcases DataW.trod_slice ht h with ⟨hc, _⟩ | ⟨a, len, cap, elems, rest, n', _, hc, _, _, h1, h2, _⟩
  · exact ⟨none, 0, 0, (List.cons.inj hc).1, Nat.le_refl _, by omega⟩
  · exact ⟨some a, len, cap, (List.cons.inj hc).1, h1, h2⟩
theorem ints_of {n : Nat} {c : Value} {y : DataW H × List MemPlace} (h : Rd (enc := enc) (W := W) n 23 [c] y) : ∃ zs, RI W.heap.size W c zs := by
  rcases DataW.trod_slice Tryd.underlying23 h with ⟨hc, _⟩ | ⟨a, len, cap, elems, rest, n, _, hc, _, _, h1, h2, h3, h4, _⟩
  · obtain rfl := (List.cons.inj hc).1; exact ⟨[], none, 0, rfl, Nat.le_refl _, by omega, fun j hj => by simp at hj⟩
  · obtain rfl := (List.cons.inj hc).1
    have hcell : ∀ i, i < len → ∃ z, W.cell? (a.add i) = some (.int .i64 z) ∧ rng z := by
      intro i hi
      have h5 := h4 i hi
      rw [show Tryd.prog.cellsOf 3 = 1 by kernel_rfl, Nat.mul_one, List.getElem?_eq_getElem (by omega), Option.bind_eq_some_iff] at h5
      obtain ⟨cs, h6, h7⟩ := h5
      obtain ⟨z, rfl, _, hw⟩ := DataW.trod_int Tryd.underlying3 h7
      obtain ⟨_, _, h8⟩ := World.cells?_some h6
      exact ⟨z, by have := h8 0 (by omega); simpa [Addr.add] using this, bounds_i64 hw⟩
    obtain ⟨b, off, spot⟩ := a
    refine ⟨(List.range len).map (fun i => match W.cell? ((⟨b, off, spot⟩ : Addr).add i) with | some (.int _ z) => z | _ => 0), some ⟨b, off, spot⟩, cap, by simp, by simpa using h1, h2, fun j hj => ?_⟩
    have hj' : j < len := by simpa using hj
    obtain ⟨z0, hz0, _⟩ := hcell 0 (by omega)
    have hspot : spot = none := by simpa [Addr.add] using World.cell?_spot hz0
    subst hspot
    obtain ⟨y, hy, hr⟩ := hcell j hj'
    have e : ((List.range len).map (fun i => match W.cell? ((⟨b, off, none⟩ : Addr).add i) with | some (.int _ z) => z | _ => 0))[j] = y := by
      rw [List.getElem_map, List.getElem_range]; simp only [hy]
    rw [e]
    refine ⟨b, off, rfl, World.block_lt_of_cell? W _ hz0, ?_, hr⟩
    rw [add_plain] at hy; exact hy

theorem size3 : Tryd.prog.cellsOf 3 = 1 := by kernel_rfl
theorem size23 : Tryd.prog.cellsOf 23 = 1 := by kernel_rfl
theorem size25 : Tryd.prog.cellsOf 25 = 3 := by kernel_rfl
theorem size26 : Tryd.prog.cellsOf 26 = 1 := by kernel_rfl
theorem size28 : Tryd.prog.cellsOf 28 = 5 := by kernel_rfl
theorem size30 : Tryd.prog.cellsOf 30 = 5 := by kernel_rfl
theorem size32 : Tryd.prog.cellsOf 32 = 3 := by kernel_rfl
theorem size34 : Tryd.prog.cellsOf 34 = 1 := by kernel_rfl
theorem size36 : Tryd.prog.cellsOf 36 = 23 := by kernel_rfl

set_option maxRecDepth 100000 in
theorem fields25 {fuel : Nat} {c0 c1 c2 : Value} {x : DataW H × List MemPlace} (h : Rd (enc := enc) (W := W) fuel 25 [c0, c1, c2] x) :
    (∃ n y, Rd (enc := enc) (W := W) n 3 [c0] y) ∧ (∃ n y, Rd (enc := enc) (W := W) n 3 [c1] y) ∧ (∃ n y, Rd (enc := enc) (W := W) n 23 [c2] y) := by
  obtain ⟨n0, y0, h0⟩ := fieldOf Tryd.underlying25 h 0 _ rfl
  obtain ⟨n1, y1, h1⟩ := fieldOf Tryd.underlying25 h 1 _ rfl
  obtain ⟨n2, y2, h2⟩ := fieldOf Tryd.underlying25 h 2 _ rfl
  simp [size23, size3] at h0 h1 h2
  exact ⟨⟨_, _, h0⟩, ⟨_, _, h1⟩, ⟨_, _, h2⟩⟩
set_option maxRecDepth 100000 in
theorem fields28 {fuel : Nat} {c0 c1 c2 c3 c4 : Value} {x : DataW H × List MemPlace} (h : Rd (enc := enc) (W := W) fuel 28 [c0, c1, c2, c3, c4] x) :
    (∃ n y, Rd (enc := enc) (W := W) n 25 [c0, c1, c2] y) ∧ (∃ n y, Rd (enc := enc) (W := W) n 3 [c3] y) ∧ (∃ n y, Rd (enc := enc) (W := W) n 26 [c4] y) := by
  obtain ⟨n0, y0, h0⟩ := fieldOf Tryd.underlying28 h 0 _ rfl
  obtain ⟨n1, y1, h1⟩ := fieldOf Tryd.underlying28 h 1 _ rfl
  obtain ⟨n2, y2, h2⟩ := fieldOf Tryd.underlying28 h 2 _ rfl
  simp [size25, size26, size3] at h0 h1 h2
  exact ⟨⟨_, _, h0⟩, ⟨_, _, h1⟩, ⟨_, _, h2⟩⟩
set_option maxRecDepth 100000 in
theorem fields30 {fuel : Nat} {c0 c1 c2 c3 c4 : Value} {x : DataW H × List MemPlace} (h : Rd (enc := enc) (W := W) fuel 30 [c0, c1, c2, c3, c4] x) :
    (∃ n y, Rd (enc := enc) (W := W) n 3 [c0] y) ∧ (∃ n y, Rd (enc := enc) (W := W) n 3 [c1] y) ∧ (∃ n y, Rd (enc := enc) (W := W) n 3 [c2] y) ∧ (∃ n y, Rd (enc := enc) (W := W) n 3 [c3] y) ∧ (∃ n y, Rd (enc := enc) (W := W) n 3 [c4] y) := by
  obtain ⟨n0, y0, h0⟩ := fieldOf Tryd.underlying30 h 0 _ rfl
  obtain ⟨n1, y1, h1⟩ := fieldOf Tryd.underlying30 h 1 _ rfl
  obtain ⟨n2, y2, h2⟩ := fieldOf Tryd.underlying30 h 2 _ rfl
  obtain ⟨n3, y3, h3⟩ := fieldOf Tryd.underlying30 h 3 _ rfl
  obtain ⟨n4, y4, h4⟩ := fieldOf Tryd.underlying30 h 4 _ rfl
  simp [size3] at h0 h1 h2 h3 h4
  exact ⟨⟨_, _, h0⟩, ⟨_, _, h1⟩, ⟨_, _, h2⟩, ⟨_, _, h3⟩, ⟨_, _, h4⟩⟩
set_option maxRecDepth 100000 in
theorem fields32 {fuel : Nat} {c0 c1 c2 : Value} {x : DataW H × List MemPlace} (h : Rd (enc := enc) (W := W) fuel 32 [c0, c1, c2] x) :
    (∃ n y, Rd (enc := enc) (W := W) n 23 [c0] y) ∧ (∃ n y, Rd (enc := enc) (W := W) n 23 [c1] y) ∧ (∃ n y, Rd (enc := enc) (W := W) n 3 [c2] y) := by
  obtain ⟨n0, y0, h0⟩ := fieldOf Tryd.underlying32 h 0 _ rfl
  obtain ⟨n1, y1, h1⟩ := fieldOf Tryd.underlying32 h 1 _ rfl
  obtain ⟨n2, y2, h2⟩ := fieldOf Tryd.underlying32 h 2 _ rfl
  simp [size23, size3] at h0 h1 h2
  exact ⟨⟨_, _, h0⟩, ⟨_, _, h1⟩, ⟨_, _, h2⟩⟩
set_option maxRecDepth 100000 in
theorem fields34 {fuel : Nat} {c0 : Value} {x : DataW H × List MemPlace} (h : Rd (enc := enc) (W := W) fuel 34 [c0] x) :
    (∃ n y, Rd (enc := enc) (W := W) n 26 [c0] y) := by
  obtain ⟨n0, y0, h0⟩ := fieldOf Tryd.underlying34 h 0 _ rfl
  simp [size26] at h0
  exact ⟨_, _, h0⟩
set_option maxRecDepth 100000 in
theorem fields36 {fuel : Nat} {c0 c1 c2 c3 c4 c5 c6 c7 c8 c9 c10 c11 c12 c13 c14 c15 c16 c17 c18 c19 c20 c21 c22 : Value} {x : DataW H × List MemPlace} (h : Rd (enc := enc) (W := W) fuel 36 [c0, c1, c2, c3, c4, c5, c6, c7, c8, c9, c10, c11, c12, c13, c14, c15, c16, c17, c18, c19, c20, c21, c22] x) :
    (∃ n y, Rd (enc := enc) (W := W) n 3 [c0] y) ∧ (∃ n y, Rd (enc := enc) (W := W) n 28 [c1, c2, c3, c4, c5] y) ∧ (∃ n y, Rd (enc := enc) (W := W) n 3 [c6] y) ∧ (∃ n y, Rd (enc := enc) (W := W) n 23 [c7] y) ∧ (∃ n y, Rd (enc := enc) (W := W) n 23 [c8] y) ∧ (∃ n y, Rd (enc := enc) (W := W) n 25 [c9, c10, c11] y) ∧ (∃ n y, Rd (enc := enc) (W := W) n 30 [c12, c13, c14, c15, c16] y) ∧ (∃ n y, Rd (enc := enc) (W := W) n 23 [c17] y) ∧ (∃ n y, Rd (enc := enc) (W := W) n 23 [c18] y) ∧ (∃ n y, Rd (enc := enc) (W := W) n 32 [c19, c20, c21] y) ∧ (∃ n y, Rd (enc := enc) (W := W) n 34 [c22] y) := by
  obtain ⟨n0, y0, h0⟩ := fieldOf Tryd.underlying36 h 0 _ rfl
  obtain ⟨n1, y1, h1⟩ := fieldOf Tryd.underlying36 h 1 _ rfl
  obtain ⟨n2, y2, h2⟩ := fieldOf Tryd.underlying36 h 2 _ rfl
  obtain ⟨n3, y3, h3⟩ := fieldOf Tryd.underlying36 h 3 _ rfl
  obtain ⟨n4, y4, h4⟩ := fieldOf Tryd.underlying36 h 4 _ rfl
  obtain ⟨n5, y5, h5⟩ := fieldOf Tryd.underlying36 h 5 _ rfl
  obtain ⟨n6, y6, h6⟩ := fieldOf Tryd.underlying36 h 6 _ rfl
  obtain ⟨n7, y7, h7⟩ := fieldOf Tryd.underlying36 h 7 _ rfl
  obtain ⟨n8, y8, h8⟩ := fieldOf Tryd.underlying36 h 8 _ rfl
  obtain ⟨n9, y9, h9⟩ := fieldOf Tryd.underlying36 h 9 _ rfl
  obtain ⟨n10, y10, h10⟩ := fieldOf Tryd.underlying36 h 10 _ rfl
  simp [size23, size25, size28, size3, size30, size32, size34] at h0 h1 h2 h3 h4 h5 h6 h7 h8 h9 h10
  exact ⟨⟨_, _, h0⟩, ⟨_, _, h1⟩, ⟨_, _, h2⟩, ⟨_, _, h3⟩, ⟨_, _, h4⟩, ⟨_, _, h5⟩, ⟨_, _, h6⟩, ⟨_, _, h7⟩, ⟨_, _, h8⟩, ⟨_, _, h9⟩, ⟨_, _, h10⟩⟩
set_option maxRecDepth 100000 in
theorem step_of {fuel : Nat} {cs : List Value} {x : DataW H × List MemPlace} (h : Rd (enc := enc) (W := W) fuel 36 cs x) :
    ∃ s : St, cs = s.cells.toList ∧ RI W.heap.size W (.slice s.fa s.frm.length s.fc) s.frm ∧ rng s.p ∧ rng s.m ∧ rng s.n ∧ rng s.low ∧ s.gl ≤ 9223372036854775807 := by
  have hl : cs.length = 23 := by
    obtain ⟨xs, m, _, _, hl, _⟩ := DataW.trod_struct Tryd.underlying36 h
    rw [size36] at hl; exact hl
  match cs, hl with
  | [c0, c1, c2, c3, c4, c5, c6, c7, c8, c9, c10, c11, c12, c13, c14, c15, c16, c17, c18, c19, c20, c21, c22], _ =>
  obtain ⟨⟨_, _, k0⟩, ⟨_, _, kC⟩, ⟨_, _, k6⟩, ⟨_, _, k7⟩, ⟨_, _, k8⟩, ⟨_, _, kB⟩, ⟨_, _, kR⟩, ⟨_, _, k17⟩, ⟨_, _, k18⟩, ⟨_, _, kM⟩, ⟨_, _, kT⟩⟩ := fields36 h
  obtain ⟨⟨_, _, kF⟩, ⟨_, _, k4⟩, ⟨_, _, k5⟩⟩ := fields28 kC
  obtain ⟨⟨_, _, k1⟩, ⟨_, _, k2⟩, ⟨_, _, k3⟩⟩ := fields25 kF
  obtain ⟨⟨_, _, k9⟩, ⟨_, _, k10⟩, ⟨_, _, k11⟩⟩ := fields25 kB
  obtain ⟨⟨_, _, k12⟩, ⟨_, _, k13⟩, ⟨_, _, k14⟩, ⟨_, _, k15⟩, ⟨_, _, k16⟩⟩ := fields30 kR
  obtain ⟨⟨_, _, k19⟩, ⟨_, _, k20⟩, ⟨_, _, k21⟩⟩ := fields32 kM
  obtain ⟨_, _, k22⟩ := fields34 kT
  obtain ⟨rule, rfl, w0⟩ := int_of k0
  obtain ⟨p, rfl, w1⟩ := int_of k1
  obtain ⟨m, rfl, w2⟩ := int_of k2
  obtain ⟨mda, mdl, mdc, rfl, w3, u3⟩ := sl_of Tryd.underlying23 k3
  obtain ⟨n, rfl, w4⟩ := int_of k4
  obtain ⟨ga, gl, gc, rfl, w5, u5⟩ := sl_of Tryd.underlying26 k5
  obtain ⟨low, rfl, w6⟩ := int_of k6
  obtain ⟨frm, hfrm⟩ := ints_of k7
  have hfrm2 := hfrm
  obtain ⟨fa, fc, rfl, -, -, -⟩ := hfrm2
  obtain ⟨qata, qatl, qatc, rfl, w8, u8⟩ := sl_of Tryd.underlying23 k8
  obtain ⟨bp, rfl, w9⟩ := int_of k9
  obtain ⟨bm, rfl, w10⟩ := int_of k10
  obtain ⟨bda, bdl, bdc, rfl, w11, u11⟩ := sl_of Tryd.underlying23 k11
  obtain ⟨r0, rfl, w12⟩ := int_of k12
  obtain ⟨r1, rfl, w13⟩ := int_of k13
  obtain ⟨r2, rfl, w14⟩ := int_of k14
  obtain ⟨r3, rfl, w15⟩ := int_of k15
  obtain ⟨r4, rfl, w16⟩ := int_of k16
  obtain ⟨pta, ptl, ptc, rfl, w17, u17⟩ := sl_of Tryd.underlying23 k17
  obtain ⟨mua, mul, muc, rfl, w18, u18⟩ := sl_of Tryd.underlying23 k18
  obtain ⟨saa, sal, sac, rfl, w19, u19⟩ := sl_of Tryd.underlying23 k19
  obtain ⟨sca, scl, scc, rfl, w20, u20⟩ := sl_of Tryd.underlying23 k20
  obtain ⟨fr, rfl, w21⟩ := int_of k21
  obtain ⟨tra, trl, trc, rfl, w22, u22⟩ := sl_of Tryd.underlying26 k22
  exact ⟨⟨rule, p, m, mda, mdl, mdc, n, ga, gl, gc, low, fa, fc, frm, qata, qatl, qatc, bp, bm, bda, bdl, bdc, r0, r1, r2, r3, r4, pta, ptl, ptc, mua, mul, muc, saa, sal, sac, sca, scl, scc, fr, tra, trl, trc⟩, rfl, hfrm, w1, w2, w4, w6, Nat.le_trans w5 u5⟩

theorem steps_of {n : Nat} {c : Value} {y : DataW H × List MemPlace} (h : Rd (enc := enc) (W := W) n 22 [c] y) : ∃ l, RSt W.heap.size W c l := by
  rcases DataW.trod_slice Tryd.underlying22 h with ⟨hc, _⟩ | ⟨a, len, cap, elems, rest, n, _, hc, _, _, h1, h2, h3, h4, _⟩
  · obtain rfl := (List.cons.inj hc).1; exact ⟨[], none, 0, rfl, Nat.le_refl _, by omega, fun j hj => by simp at hj⟩
  · obtain rfl := (List.cons.inj hc).1
    have hcell : ∀ i, i < len → ∃ s : St, (∀ j v, s.cells[j]? = some v → W.cell? ((a.add (i * 23)).add j) = some v) ∧ RI W.heap.size W (.slice s.fa s.frm.length s.fc) s.frm ∧ rng s.p ∧ rng s.m ∧ rng s.n ∧ rng s.low ∧ s.gl ≤ 9223372036854775807 := by
      intro i hi
      have h5 := h4 i hi
      rw [size36, List.getElem?_eq_getElem (by omega), Option.bind_eq_some_iff] at h5
      obtain ⟨cs, h6, h7⟩ := h5
      obtain ⟨s, rfl, hs⟩ := step_of h7
      obtain ⟨_, _, h8⟩ := World.cells?_some h6
      refine ⟨s, fun j v hv => ?_, hs⟩
      have hj : j < 23 := (Array.getElem?_eq_some_iff.1 hv).1
      rw [h8 j hj]; simpa using hv
    obtain ⟨b, off, spot⟩ := a
    have hspot : 0 < len → spot = none := fun hp => by
      obtain ⟨s, hs, _⟩ := hcell 0 hp
      have := World.cell?_spot (hs 0 _ rfl)
      simpa [Addr.add] using this
    have hall : ∀ len' ≤ len, ∃ l : List St, l.length = len' ∧ ∀ i (h : i < l.length), StepAt W.heap.size W b (off + i * 23) l[i] ∧ spot = none := by
      intro len'
      induction len' with
      | zero => intro _; exact ⟨[], rfl, fun i h => by simp at h⟩
      | succ k ih =>
        intro hk
        obtain ⟨l, hl, hs⟩ := ih (by omega)
        obtain ⟨s, hc, hf, hr⟩ := hcell k (by omega)
        have hsp := hspot (by omega)
        subst hsp
        have hst : StepAt W.heap.size W b (off + k * 23) s := by
          refine ⟨?_, fun j v hv => ?_, hf, hr⟩
          · have h0 := hc 0 _ rfl
            rw [add_plain, add_plain] at h0
            exact World.block_lt_of_cell? W _ h0
          · have h0 := hc j v hv
            rw [add_plain, add_plain] at h0; exact h0
        refine ⟨l ++ [s], by simp [hl], fun i hi => ⟨?_, rfl⟩⟩
        rw [List.getElem_append]
        split
        · rename_i h; exact (hs i h).1
        · rename_i h
          have : i = k := by simp at hi; omega
          subst this; simpa [hl] using hst
    obtain ⟨l, hl, hs⟩ := hall len (Nat.le_refl _)
    refine ⟨l, some ⟨b, off, spot⟩, cap, by rw [hl], by omega, h2, fun i hi => ?_⟩
    obtain ⟨h5, h6⟩ := hs i hi
    subst h6
    exact ⟨b, off, rfl, h5⟩
theorem open22 {base : Nat} {v : Value} {d : DataW H} {ps : List MemPlace} (hval : Value.okWide Tryd.prog W .any base 22 v) (h : DataW.Trod enc Tryd.prog W 0 (fun _ => true) true 22 v d ps) : ∃ l, RSt W.heap.size W v l := by
  obtain ⟨a, len, cap, rfl⟩ := okWide_slice Tryd.underlying22 hval
  obtain ⟨fuel, hf⟩ := h
  exact steps_of hf
end

/-! ### The text -/
def lineH (i : Nat) (s : St) : List UInt8 :=
  Lib.itoa i ++ [58, 32, 108, 101, 110, 103, 116, 104, 32] ++ Lib.itoa s.n ++ [44, 32, 100, 105, 109, 101, 110, 115, 105, 111, 110, 32] ++ Lib.itoa s.gl ++ [44, 32, 102, 105, 101, 108, 100, 32] ++ Lib.itoa s.p ++ [94] ++ Lib.itoa s.m ++ [44, 32, 119, 101, 105, 103, 104, 116, 32, 97, 116, 32, 108, 101, 97, 115, 116, 32] ++ Lib.itoa s.low ++ [44, 32, 98, 121, 32] ++ nameL s.rule
def fromS : List Int → Nat → List UInt8
  | [], _ => []
  | z :: zs, j => (if j = 0 then [32, 111, 102, 32] else [44, 32]) ++ Lib.itoa z ++ fromS zs (j + 1)
def txt : List St → Nat → List UInt8
  | [], _ => []
  | s :: l, i => lineH i s ++ fromS s.frm 0 ++ [10] ++ txt l (i + 1)
theorem fromS_snoc : ∀ (zs : List Int) (z : Int) (j : Nat), fromS (zs ++ [z]) j = fromS zs j ++ (if j + zs.length = 0 then [32, 111, 102, 32] else [44, 32]) ++ Lib.itoa z
  | [], z, j => by simp [fromS]
  | y :: zs, z, j => by
    simp only [List.cons_append, fromS, fromS_snoc zs z (j + 1), List.length_cons, List.append_assoc]
    rw [show j + 1 + zs.length = j + (zs.length + 1) by omega]
theorem txt_snoc : ∀ (l : List St) (s : St) (i : Nat), txt (l ++ [s]) i = txt l i ++ (lineH (i + l.length) s ++ fromS s.frm 0 ++ [10])
  | [], s, i => by simp [txt]
  | a :: l, s, i => by
    simp only [List.cons_append, txt, txt_snoc l s (i + 1), List.length_cons, List.append_assoc]
    rw [show i + 1 + l.length = i + (l.length + 1) by omega]
theorem fromS_len : ∀ (zs : List Int) (j : Nat), (∀ z ∈ zs, rng z) → (fromS zs j).length ≤ 25 * zs.length
  | [], _, _ => by simp [fromS]
  | z :: zs, j, h => by
    have h1 := fromS_len zs (j + 1) (fun y hy => h y (List.mem_cons_of_mem _ hy))
    have hz := h z (List.mem_cons_self ..)
    have h2 := Lib.itoa_length_le z hz.1 hz.2
    simp only [fromS]
    split <;> simp only [List.length_append, List.length_cons, List.length_nil] <;> omega
end Go.Proofs.YtneofdapleakpaaDoor
