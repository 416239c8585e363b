/- How an expression lies in memory: five cells, its numbers and its arguments behind two slices; and that it stays there while other blocks turn. -/
import Derived.Test.YtcaaadhhaanbcaaDoorWx
import Derived.Test.YtcaaadhhaanbcaaDoorPt
namespace Go.Proofs.YtcaaadhhaanbcaaDoor
open Go.RowKit

def Ex.kind : Ex → Int | .mk k _ _ _ _ => k
def Ex.name : Ex → List UInt8 | .mk _ s _ _ _ => s
def Ex.n : Ex → Int | .mk _ _ n _ _ => n
def Ex.list : Ex → List Int | .mk _ _ _ l _ => l
def Ex.args : Ex → List Ex | .mk _ _ _ _ l => l

/-- v is a slice that reads as zs; its cells lie in blocks of G. -/
def RInts (G : Nat → Prop) (w : World) (v : Value) (zs : List Int) : Prop :=
  ∃ a cap, v = .slice a zs.length cap ∧ zs.length ≤ cap ∧ cap ≤ 9223372036854775807 ∧ (zs ≠ [] → ∃ b o, a = some ⟨b, o, none⟩ ∧ G b ∧ ∀ j z, zs[j]? = some z → w.cell? ⟨b, o + j, none⟩ = some (.int .i64 z))

mutual
/-- The cells f read as the expression x. -/
def RX (G : Nat → Prop) (w : World) : Ex → (Nat → Option Value) → Prop
  | .mk k nm n zs ag, f => f 0 = some (.int .i64 k) ∧ f 1 = some (strV nm) ∧ f 2 = some (.int .i64 n) ∧ (∃ lv, f 3 = some lv ∧ RInts G w lv zs) ∧
      ∃ a cap, f 4 = some (.slice a ag.length cap) ∧ ag.length ≤ cap ∧ cap ≤ 9223372036854775807 ∧ (ag ≠ [] → ∃ b o, a = some ⟨b, o, none⟩ ∧ G b ∧ RXs G w ag (fun i => w.cell? ⟨b, o + i, none⟩))
def RXs (G : Nat → Prop) (w : World) : List Ex → (Nat → Option Value) → Prop
  | [], _ => True
  | x :: xs, f => RX G w x f ∧ RXs G w xs (fun i => f (i + 5))
end

def RArgs (G : Nat → Prop) (w : World) (v : Value) (ag : List Ex) : Prop :=
  ∃ a cap, v = .slice a ag.length cap ∧ ag.length ≤ cap ∧ cap ≤ 9223372036854775807 ∧ (ag ≠ [] → ∃ b o, a = some ⟨b, o, none⟩ ∧ G b ∧ RXs G w ag (fun i => w.cell? ⟨b, o + i, none⟩))

/-- The value of an expression. -/
def XV (G : Nat → Prop) (w : World) (x : Ex) (cs : Array Value) : Prop :=
  ∃ lv av, cs = #[.int .i64 x.kind, strV x.name, .int .i64 x.n, lv, av] ∧ RInts G w lv x.list ∧ RArgs G w av x.args

theorem RX_iff {G : Nat → Prop} {w : World} {x : Ex} {f : Nat → Option Value} :
    RX G w x f ↔ f 0 = some (.int .i64 x.kind) ∧ f 1 = some (strV x.name) ∧ f 2 = some (.int .i64 x.n) ∧ (∃ lv, f 3 = some lv ∧ RInts G w lv x.list) ∧ ∃ av, f 4 = some av ∧ RArgs G w av x.args := by
  cases x with
  | mk k nm n zs ag =>
    simp only [RX, Ex.kind, Ex.name, Ex.n, Ex.list, Ex.args, RArgs]
    constructor
    · rintro ⟨h0, h1, h2, h3, a, cap, h4, h5, h6, h7⟩
      exact ⟨h0, h1, h2, h3, _, h4, a, cap, rfl, h5, h6, h7⟩
    · rintro ⟨h0, h1, h2, h3, av, h4, a, cap, rfl, h5, h6, h7⟩
      exact ⟨h0, h1, h2, h3, a, cap, h4, h5, h6, h7⟩

theorem RXs_nil {G : Nat → Prop} {w : World} {f : Nat → Option Value} : RXs G w [] f := by simp [RXs]
theorem RXs_cons {G : Nat → Prop} {w : World} {x : Ex} {xs : List Ex} {f : Nat → Option Value} : RXs G w (x :: xs) f ↔ RX G w x f ∧ RXs G w xs (fun i => f (i + 5)) := by simp [RXs]

theorem XV.rx {G : Nat → Prop} {w : World} {x : Ex} {cs : Array Value} (h : XV G w x cs) : RX G w x (fun i => cs[i]?) := by
  obtain ⟨lv, av, rfl, h1, h2⟩ := h
  rw [RX_iff]
  exact ⟨rfl, rfl, rfl, ⟨lv, rfl, h1⟩, av, rfl, h2⟩
theorem XV.of_rx {G : Nat → Prop} {w : World} {x : Ex} {f : Nat → Option Value} (h : RX G w x f) : ∃ cs : Array Value, XV G w x cs ∧ cs.size = 5 ∧ ∀ i < 5, f i = cs[i]? := by
  rw [RX_iff] at h
  obtain ⟨h0, h1, h2, ⟨lv, h3, hl⟩, av, h4, ha⟩ := h
  refine ⟨#[.int .i64 x.kind, strV x.name, .int .i64 x.n, lv, av], ⟨lv, av, rfl, hl, ha⟩, rfl, fun i hi => ?_⟩
  match i, hi with
  | 0, _ => exact h0
  | 1, _ => exact h1
  | 2, _ => exact h2
  | 3, _ => exact h3
  | 4, _ => exact h4

theorem RInts_mono {G G' : Nat → Prop} {w w' : World} (H : ∀ b o v, G b → w.cell? ⟨b, o, none⟩ = some v → G' b ∧ w'.cell? ⟨b, o, none⟩ = some v) {v : Value} {zs : List Int} (h : RInts G w v zs) : RInts G' w' v zs := by
  obtain ⟨a, cap, hv, h1, h2, h3⟩ := h
  refine ⟨a, cap, hv, h1, h2, fun hne => ?_⟩
  obtain ⟨b, o, ha, hG, hc⟩ := h3 hne
  obtain ⟨z, zs', rfl⟩ := List.exists_cons_of_ne_nil hne
  exact ⟨b, o, ha, (H b o _ hG (by simpa using hc 0 z rfl)).1, fun j z hz => (H b _ _ hG (hc j z hz)).2⟩

mutual
theorem RX_mono {G G' : Nat → Prop} {w w' : World} (H : ∀ b o v, G b → w.cell? ⟨b, o, none⟩ = some v → G' b ∧ w'.cell? ⟨b, o, none⟩ = some v) :
    ∀ (x : Ex) (f f' : Nat → Option Value), (∀ i v, f i = some v → f' i = some v) → RX G w x f → RX G' w' x f'
  | .mk k nm n zs ag, f, f', hf, h => by
    simp only [RX] at h ⊢
    obtain ⟨h0, h1, h2, ⟨lv, h3, hl⟩, a, cap, h4, h5, h6, h7⟩ := h
    refine ⟨hf _ _ h0, hf _ _ h1, hf _ _ h2, ⟨lv, hf _ _ h3, RInts_mono H hl⟩, a, cap, hf _ _ h4, h5, h6, fun hne => ?_⟩
    obtain ⟨b, o, ha, hG, hx⟩ := h7 hne
    refine ⟨b, o, ha, ?_, RXs_mono H ag _ _ (fun i v hv => (H b _ v hG hv).2) hx⟩
    cases ag with
    | nil => exact absurd rfl hne
    | cons y ys =>
      simp only [RXs] at hx
      have := (RX_iff.1 hx.1).1
      exact (H b _ _ hG this).1
theorem RXs_mono {G G' : Nat → Prop} {w w' : World} (H : ∀ b o v, G b → w.cell? ⟨b, o, none⟩ = some v → G' b ∧ w'.cell? ⟨b, o, none⟩ = some v) :
    ∀ (xs : List Ex) (f f' : Nat → Option Value), (∀ i v, f i = some v → f' i = some v) → RXs G w xs f → RXs G' w' xs f'
  | [], _, _, _, _ => by simp [RXs]
  | x :: xs, f, f', hf, h => by
    simp only [RXs] at h ⊢
    exact ⟨RX_mono H x f f' hf h.1, RXs_mono H xs _ _ (fun i v hv => hf _ v hv) h.2⟩
end

theorem RArgs_mono {G G' : Nat → Prop} {w w' : World} (H : ∀ b o v, G b → w.cell? ⟨b, o, none⟩ = some v → G' b ∧ w'.cell? ⟨b, o, none⟩ = some v) {v : Value} {ag : List Ex} (h : RArgs G w v ag) : RArgs G' w' v ag := by
  obtain ⟨a, cap, hv, h5, h6, h7⟩ := h
  refine ⟨a, cap, hv, h5, h6, fun hne => ?_⟩
  obtain ⟨b, o, ha, hG, hx⟩ := h7 hne
  refine ⟨b, o, ha, ?_, RXs_mono H ag _ _ (fun i v hv => (H b _ v hG hv).2) hx⟩
  cases ag with
  | nil => exact absurd rfl hne
  | cons y ys => exact (H b _ _ hG (RX_iff.1 (RXs_cons.1 hx).1).1).1

theorem XV_mono {G G' : Nat → Prop} {w w' : World} (H : ∀ b o v, G b → w.cell? ⟨b, o, none⟩ = some v → G' b ∧ w'.cell? ⟨b, o, none⟩ = some v) {x : Ex} {cs : Array Value} (h : XV G w x cs) : XV G' w' x cs := by
  obtain ⟨lv, av, hc, h1, h2⟩ := h
  exact ⟨lv, av, hc, RInts_mono H h1, RArgs_mono H h2⟩

theorem RXs_append {G : Nat → Prop} {w : World} : ∀ (xs ys : List Ex) (f : Nat → Option Value), RXs G w (xs ++ ys) f ↔ RXs G w xs f ∧ RXs G w ys (fun i => f (i + 5 * xs.length))
  | [], ys, f => by simp [RXs]
  | x :: xs, ys, f => by
    simp only [List.cons_append, RXs_cons, RXs_append xs ys, List.length_cons]
    constructor
    · rintro ⟨h1, h2, h3⟩; exact ⟨⟨h1, h2⟩, by simpa [Nat.mul_add, Nat.add_assoc, Nat.add_comm 5] using h3⟩
    · rintro ⟨⟨h1, h2⟩, h3⟩; exact ⟨h1, h2, by simpa [Nat.mul_add, Nat.add_assoc, Nat.add_comm 5] using h3⟩

theorem RInts_nil {G : Nat → Prop} {w : World} : RInts G w (.slice none 0 0) [] := ⟨none, 0, rfl, Nat.le_refl _, by omega, fun h => absurd rfl h⟩
theorem RArgs_nil {G : Nat → Prop} {w : World} : RArgs G w (.slice none 0 0) [] := ⟨none, 0, rfl, Nat.le_refl _, by omega, fun h => absurd rfl h⟩

theorem RInts_own {G : Nat → Prop} {w : World} {B : Nat} {v : Value} {zs : List Int} (h : w.ownsRow B 3 1 v zs.length (zs.map (Value.int .i64))) (hG : ∀ b, B ≤ b → G b) : RInts G w v zs := by
  rcases h.2 with ⟨hv, h0⟩ | ⟨g, cap, cur, hv, hb, hh, hn, hm, hs, ht⟩
  · have : zs = [] := List.length_eq_zero_iff.1 h0
    subst this; rw [hv]; exact RInts_nil
  · refine ⟨_, cap, hv, hn, hm, fun _ => ⟨g, 0, rfl, hG g hb, fun j z hz => ?_⟩⟩
    have hown := h
    rw [hv] at hown
    have hj : j < zs.length := (List.getElem?_eq_some_iff.1 hz).1
    have := hown.cellAt j (by omega)
    rw [Nat.zero_add, this, List.getElem?_map, hz]; rfl

theorem RArgs_own {G : Nat → Prop} {w : World} {B : Nat} {v : Value} {ag : List Ex} {cells : List Value} (h : w.ownsRow B 26 5 v ag.length cells) (hx : RXs G w ag (fun i => cells[i]?)) (hG : ∀ b, B ≤ b → G b) : RArgs G w v ag := by
  rcases h.2 with ⟨hv, h0⟩ | ⟨g, cap, cur, hv, hb, hh, hn, hm, hs, ht⟩
  · have : ag = [] := List.length_eq_zero_iff.1 h0
    subst this; rw [hv]; exact RArgs_nil
  · refine ⟨_, cap, hv, hn, hm, fun _ => ⟨g, 0, rfl, hG g hb, ?_⟩⟩
    have hown := h
    rw [hv] at hown
    refine RXs_mono (fun b o v hb hv => ⟨hb, hv⟩) ag _ _ (fun i u hu => ?_) hx
    have hi : i < cells.length := (List.getElem?_eq_some_iff.1 hu).1
    rw [h.1] at hi
    rw [Nat.zero_add, hown.cellAt i hi]; exact hu

end Go.Proofs.YtcaaadhhaanbcaaDoor
