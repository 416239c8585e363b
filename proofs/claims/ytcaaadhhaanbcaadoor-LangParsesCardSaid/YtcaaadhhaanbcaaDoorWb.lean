/- The walk of the token of a number: its digits are ranged over as runes; its faults are panics. -/
import Derived.Test.YtcaaadhhaanbcaaDoorWa
namespace Go.Proofs.YtcaaadhhaanbcaaDoor
open Go.RowKit

abbrev faultV (c a : Int) : Value := .iface 73 (.agg #[.int .i64 c, .int .i64 a])
abbrev faultE (c a : Int) : Ending := .panicked [{ v := faultV c a, recovered := false }]

set_option maxHeartbeats 400000 in
theorem f28_any (c a : Int) (w : World) :
    Calls Tryd.prog 28 #[.int .i64 c, .int .i64 a] w fun e w' => e = faultE c a ∧ w = w' := by
  go_enter Tryd.func28, Tryd.ntmps28
  go_wp2
  exact ⟨rfl, rfl, rfl⟩

abbrev strV (l : List UInt8) : Value := .string ⟨l.toArray⟩
abbrev tokA (t : Tok) : Array Value := #[.int .i64 t.kind, strV t.text, .int .i64 t.n, .int .i64 t.pos]
abbrev tokV (t : Tok) : Value := .agg (tokA t)

def NumPost (r : R Tok) (w : World) (e : Ending) (w' : World) : Prop :=
  (match r with
  | .ok t => e = .returned (tokV t)
  | .err c p => e = faultE c p) ∧ Below w.heap.size w w'

theorem num_none (l : List UInt8) (p n : Nat) (hn : runLen digitB l = n) (h1 : badEnd l = false) (h2 : lead0 l = false) (h : numV (l.take n) 0 = none) : numTok l p = .err 8 p := by
  simp [numTok, hn, h1, h2, h]
theorem num_some (l : List UInt8) (p n : Nat) (v : Int) (hn : runLen digitB l = n) (h1 : badEnd l = false) (h2 : lead0 l = false) (h : numV (l.take n) 0 = some v) : numTok l p = .ok ⟨2, l.take n, v, p⟩ := by
  simp [numTok, hn, h1, h2, h]
theorem extract_bts (s : ByteArray) (i n : Nat) : s.extract i (i + n) = ⟨(((bts s).drop i).take n).toArray⟩ := by
  apply ByteArray.ext
  simp [ByteArray.data_extract, bts]
  rw [← Array.toList_inj]
  simp [Array.toList_extract]

theorem sub_facts (s : ByteArray) (i n : Nat) (hi : i < s.size) (hn : runLen digitB ((bts s).drop i) = n) :
    ∃ sub, sub = s.extract i (i + n) ∧ sub.size = n ∧ ∀ k < n, ∃ b : UInt8, 48 ≤ b.toNat ∧ b.toNat ≤ 57 ∧ Utf8.decode sub k = (b.toNat, 1) ∧ (((bts s).drop i).take n).drop k = b :: (((bts s).drop i).take n).drop (k + 1) := by
  have hm := runLen_le digitB ((bts s).drop i)
  rw [List.length_drop, bts_len, hn] at hm
  have hsz : (s.extract i (i + n)).size = n := by rw [ByteArray.size_extract]; omega
  refine ⟨_, rfl, hsz, fun k hk => ?_⟩
  have hl : k < ((bts s).drop i).length := by rw [List.length_drop, bts_len]; omega
  have h := runLen_get digitB ((bts s).drop i) k hl (by rw [hn]; exact hk)
  have he : (s.extract i (i + n))[k]'(by rw [hsz]; exact hk) = ((bts s).drop i)[k] := by
    rw [ByteArray.getElem_extract, List.getElem_drop]; rfl
  generalize hb : ((bts s).drop i)[k] = b at h he
  simp only [digitB, Bool.and_eq_true, decide_eq_true_eq] at h
  refine ⟨b, by omega, by omega, ?_, ?_⟩
  · rw [decode_ascii _ k (by rw [hsz]; exact hk) (by rw [he]; omega), he]
  · rw [List.drop_eq_getElem_cons (by rw [List.length_take]; omega)]
    congr 1
    rw [List.getElem_take, hb]

set_option maxHeartbeats 400000 in
theorem f51_any (s : ByteArray) (hs : s.size ≤ maxLen) (i : Nat) (hi : i < s.size) (hd : digitB (s[i].toNat : Int) = true) (w : World) :
    Calls Tryd.prog 51 #[.string s, .int .i64 i] w (NumPost (numTok ((bts s).drop i) i) w) := by
  have hm := runLen_le digitB ((bts s).drop i)
  rw [List.length_drop, bts_len] at hm
  have hgt : 0 < runLen digitB ((bts s).drop i) := by rw [run_yes _ s i hi hd]; omega
  have h48 := f48_50 s hs i (by omega)
  unfold maxLen at hs
  generalize hn : runLen digitB ((bts s).drop i) = n at *
  have Hn := Lib.hid hn; clear hn
  have H48 := Lib.hid h48; clear h48
  have SUB : Hid (∃ sub, sub = s.extract i (i + n) ∧ sub.size = n ∧ ∀ k < n, ∃ b : UInt8, 48 ≤ b.toNat ∧ b.toNat ≤ 57 ∧ Utf8.decode sub k = (b.toNat, 1) ∧ (((bts s).drop i).take n).drop k = b :: (((bts s).drop i).take n).drop (k + 1)) := Lib.hid (sub_facts s i n hi Hn.out)
  have LEAD : Hid (1 < n → lead0 ((bts s).drop i) = false → ((s[i].toNat : Int) == 48) = false) := Lib.hid (by
    intro h1 h2; rw [drop_cons s i hi] at h2 Hn; simp only [lead0, Hn.out, h1, decide_true, Bool.true_and] at h2; exact h2)
  have LEADT : Hid (lead0 ((bts s).drop i) = true → 1 < n ∧ ((s[i].toNat : Int) == 48) = true) := Lib.hid (by
    intro h2; rw [drop_cons s i hi] at h2 Hn; simp only [lead0, Hn.out, Bool.and_eq_true, decide_eq_true_eq] at h2; exact h2)
  have BADE : Hid (∀ h : i + n < s.size, badEnd ((bts s).drop i) = (letterB (s[i+n].toNat : Int) || (s[i+n].toNat : Int) == 95)) := Lib.hid (by
    intro h; simp only [badEnd, Hn.out, List.drop_drop]; rw [drop_cons s (i+n) h])
  have BADN : Hid (¬ i + n < s.size → badEnd ((bts s).drop i) = false) := Lib.hid (by
    intro h; simp only [badEnd, Hn.out, List.drop_drop]; rw [List.drop_eq_nil_of_le (by rw [bts_len]; omega)])
  by_cases hend : i + n < s.size
  · have HB := Lib.hid (BADE.out hend)
    cases hl : letterB (s[i+n].toNat : Int)
    · cases h95 : ((s[i+n].toNat : Int) == 95)
      · have HBE : Hid (badEnd ((bts s).drop i) = false) := Lib.hid (by rw [HB.out, hl, h95]; rfl)
        cases hz : lead0 ((bts s).drop i)
        · have HZ := Lib.hid hz; clear hz
          by_cases h1 : 1 < n
          · have h0 : ((s[i].toNat : Int) == 48) = false := LEAD.out h1 HZ.out
            go_enter Tryd.func51, Tryd.ntmps51
            go_wp2_with fail
            refine (H48.out _).mono ?_
            rintro e w' ⟨rfl, rfl⟩
            go_wp2_with (first | (go_at_call 47; refine (f47_any _ _).mono ?_; rintro e w' ⟨rfl, rfl⟩; simp only [hl]) | (go_at_call 28; refine (f28_any _ _ _).mono ?_; rintro e w' ⟨rfl, rfl⟩))
            obtain ⟨sub, hsub, hsz, hdec⟩ := SUB.out
            rw [← hsub]
            have Hsub := Lib.hid hsub; clear hsub
            have Hsz := Lib.hid hsz; clear hsz
            have Hdec := Lib.hid hdec; clear hdec
            have HIP : Hid (∀ k, (World.iter (w.alloc (Obj.cells #[Value.int IntKind.i64 0, Value.string { data := #[] }, Value.int IntKind.i64 0, Value.int IntKind.i64 0] 40)) sub k).iterPos (w.heap.size + 1) = k) := Lib.hid (fun k => by
              have := World.iterPos_iter (w.alloc (Obj.cells #[Value.int IntKind.i64 0, Value.string { data := #[] }, Value.int IntKind.i64 0, Value.int IntKind.i64 0] 40)) sub k
              simpa using this)
            go_loopw [6] (fun v wr => ∃ (k : Nat) (acc : Int), k ≤ n ∧ wr = World.iter (w.alloc (Obj.cells #[Value.int IntKind.i64 0, Value.string { data := #[] }, Value.int IntKind.i64 0, Value.int IntKind.i64 0] 40)) sub k ∧ v = .int .i64 acc ∧ 0 ≤ acc ∧ acc ≤ 9999999 ∧ numV ((((bts s).drop i).take n).drop k) acc = numV (((bts s).drop i).take n) 0) (fun _ wr => n - wr.iterPos (w.heap.size + 1))
            case atStart => exact ⟨0, 0, by omega, rfl, rfl, by omega, by omega, rfl⟩
            case round =>
              obtain ⟨k, acc, hk, rfl, rfl, ha0, ha1, hv⟩ := hrel
              have Hv := Lib.hid hv; clear hv
              by_cases hlt : k < n
              · obtain ⟨b, hb0, hb1, hdc, hdr⟩ := Hdec.out k hlt
                have hnx : ∀ ty, (Instr.next (.pointer (some ⟨w.heap.size + 1, 0, none⟩)) true ty).run Tryd.prog (World.iter (w.alloc (Obj.cells #[Value.int IntKind.i64 0, Value.string { data := #[] }, Value.int IntKind.i64 0, Value.int IntKind.i64 0] 40)) sub k) = .ok (.tuple #[.bool true, .int .i64 k, .int .i32 b.toNat]) (World.iter (w.alloc (Obj.cells #[Value.int IntKind.i64 0, Value.string { data := #[] }, Value.int IntKind.i64 0, Value.int IntKind.i64 0] 40)) sub (k + 1)) := fun ty => by
                  have := run_next_any (P := Tryd.prog) (w.alloc (Obj.cells #[Value.int IntKind.i64 0, Value.string { data := #[] }, Value.int IntKind.i64 0, Value.int IntKind.i64 0] 40)) sub k ty (by have := Hsz.out; omega)
                  rw [hdc] at this; simpa using this
                have Hdc := Lib.hid hdc; clear hdc
                have Hdr := Lib.hid hdr; clear hdr
                by_cases hbig : acc * 10 + ((b.toNat : Int) - 48) > 9999999
                · go_wp2_with (go_at_call 28; refine (f28_any _ _ _).mono ?_; rintro e w' ⟨rfl, rfl⟩)
                  refine ⟨rfl, ?_⟩
                  have hnt : numTok ((bts s).drop i) i = .err 8 i := num_none _ i n Hn.out HBE.out HZ.out (by rw [← Hv.out, Hdr.out]; simp only [numV]; rw [if_pos (by omega)])
                  unfold NumPost; rw [hnt]
                  exact ⟨rfl, ((Below.refl _ _).alloc (Nat.le_refl _) _).alloc (by simp) _⟩
                · go_wp2_with fail
                  refine ⟨⟨k + 1, _, by omega, rfl, rfl, by omega, by omega, ?_⟩, ?_⟩
                  · rw [← Hv.out, Hdr.out]; simp only [numV]; rw [if_neg (by omega)]
                  · rw [HIP.out, HIP.out]; omega
              · have hnx : ∀ ty, (Instr.next (.pointer (some ⟨w.heap.size + 1, 0, none⟩)) true ty).run Tryd.prog (World.iter (w.alloc (Obj.cells #[Value.int IntKind.i64 0, Value.string { data := #[] }, Value.int IntKind.i64 0, Value.int IntKind.i64 0] 40)) sub k) = .ok (.tuple #[.bool false]) (World.iter (w.alloc (Obj.cells #[Value.int IntKind.i64 0, Value.string { data := #[] }, Value.int IntKind.i64 0, Value.int IntKind.i64 0] 40)) sub k) := fun ty => by
                  have := run_next_end (P := Tryd.prog) (w.alloc (Obj.cells #[Value.int IntKind.i64 0, Value.string { data := #[] }, Value.int IntKind.i64 0, Value.int IntKind.i64 0] 40)) sub k ty (by have := Hsz.out; omega)
                  simpa using this
                have hnt : Hid (numTok ((bts s).drop i) i = .ok ⟨2, ((bts s).drop i).take n, acc, i⟩) := Lib.hid (num_some _ i n acc Hn.out HBE.out HZ.out (by rw [← Hv.out, List.drop_eq_nil_of_le (by rw [List.length_take]; omega)]; rfl))
                simp only [World.iter] at hnx ⊢
                go_wp2_with fail
                refine bodyPost_ret (v := .agg #[.int .i64 2, .string (s.extract i (i + n)), .int .i64 acc, .int .i64 i]) (by simp [results, Tryd.results51, go_sem]) rfl ?_
                unfold NumPost; rw [hnt.out]
                exact ⟨by simp only [tokV, tokA, strV, extract_bts], ((Below.refl _ _).alloc (Nat.le_refl _) _).alloc (by simp) _⟩
          · 
            go_enter Tryd.func51, Tryd.ntmps51
            go_wp2_with fail
            refine (H48.out _).mono ?_
            rintro e w' ⟨rfl, rfl⟩
            go_wp2_with (first | (go_at_call 47; refine (f47_any _ _).mono ?_; rintro e w' ⟨rfl, rfl⟩; simp only [hl]) | (go_at_call 28; refine (f28_any _ _ _).mono ?_; rintro e w' ⟨rfl, rfl⟩))
            obtain ⟨sub, hsub, hsz, hdec⟩ := SUB.out
            rw [← hsub]
            have Hsub := Lib.hid hsub; clear hsub
            have Hsz := Lib.hid hsz; clear hsz
            have Hdec := Lib.hid hdec; clear hdec
            have HIP : Hid (∀ k, (World.iter (w.alloc (Obj.cells #[Value.int IntKind.i64 0, Value.string { data := #[] }, Value.int IntKind.i64 0, Value.int IntKind.i64 0] 40)) sub k).iterPos (w.heap.size + 1) = k) := Lib.hid (fun k => by
              have := World.iterPos_iter (w.alloc (Obj.cells #[Value.int IntKind.i64 0, Value.string { data := #[] }, Value.int IntKind.i64 0, Value.int IntKind.i64 0] 40)) sub k
              simpa using this)
            go_loopw [6] (fun v wr => ∃ (k : Nat) (acc : Int), k ≤ n ∧ wr = World.iter (w.alloc (Obj.cells #[Value.int IntKind.i64 0, Value.string { data := #[] }, Value.int IntKind.i64 0, Value.int IntKind.i64 0] 40)) sub k ∧ v = .int .i64 acc ∧ 0 ≤ acc ∧ acc ≤ 9999999 ∧ numV ((((bts s).drop i).take n).drop k) acc = numV (((bts s).drop i).take n) 0) (fun _ wr => n - wr.iterPos (w.heap.size + 1))
            case atStart => exact ⟨0, 0, by omega, rfl, rfl, by omega, by omega, rfl⟩
            case round =>
              obtain ⟨k, acc, hk, rfl, rfl, ha0, ha1, hv⟩ := hrel
              have Hv := Lib.hid hv; clear hv
              by_cases hlt : k < n
              · obtain ⟨b, hb0, hb1, hdc, hdr⟩ := Hdec.out k hlt
                have hnx : ∀ ty, (Instr.next (.pointer (some ⟨w.heap.size + 1, 0, none⟩)) true ty).run Tryd.prog (World.iter (w.alloc (Obj.cells #[Value.int IntKind.i64 0, Value.string { data := #[] }, Value.int IntKind.i64 0, Value.int IntKind.i64 0] 40)) sub k) = .ok (.tuple #[.bool true, .int .i64 k, .int .i32 b.toNat]) (World.iter (w.alloc (Obj.cells #[Value.int IntKind.i64 0, Value.string { data := #[] }, Value.int IntKind.i64 0, Value.int IntKind.i64 0] 40)) sub (k + 1)) := fun ty => by
                  have := run_next_any (P := Tryd.prog) (w.alloc (Obj.cells #[Value.int IntKind.i64 0, Value.string { data := #[] }, Value.int IntKind.i64 0, Value.int IntKind.i64 0] 40)) sub k ty (by have := Hsz.out; omega)
                  rw [hdc] at this; simpa using this
                have Hdc := Lib.hid hdc; clear hdc
                have Hdr := Lib.hid hdr; clear hdr
                by_cases hbig : acc * 10 + ((b.toNat : Int) - 48) > 9999999
                · go_wp2_with (go_at_call 28; refine (f28_any _ _ _).mono ?_; rintro e w' ⟨rfl, rfl⟩)
                  refine ⟨rfl, ?_⟩
                  have hnt : numTok ((bts s).drop i) i = .err 8 i := num_none _ i n Hn.out HBE.out HZ.out (by rw [← Hv.out, Hdr.out]; simp only [numV]; rw [if_pos (by omega)])
                  unfold NumPost; rw [hnt]
                  exact ⟨rfl, ((Below.refl _ _).alloc (Nat.le_refl _) _).alloc (by simp) _⟩
                · go_wp2_with fail
                  refine ⟨⟨k + 1, _, by omega, rfl, rfl, by omega, by omega, ?_⟩, ?_⟩
                  · rw [← Hv.out, Hdr.out]; simp only [numV]; rw [if_neg (by omega)]
                  · rw [HIP.out, HIP.out]; omega
              · have hnx : ∀ ty, (Instr.next (.pointer (some ⟨w.heap.size + 1, 0, none⟩)) true ty).run Tryd.prog (World.iter (w.alloc (Obj.cells #[Value.int IntKind.i64 0, Value.string { data := #[] }, Value.int IntKind.i64 0, Value.int IntKind.i64 0] 40)) sub k) = .ok (.tuple #[.bool false]) (World.iter (w.alloc (Obj.cells #[Value.int IntKind.i64 0, Value.string { data := #[] }, Value.int IntKind.i64 0, Value.int IntKind.i64 0] 40)) sub k) := fun ty => by
                  have := run_next_end (P := Tryd.prog) (w.alloc (Obj.cells #[Value.int IntKind.i64 0, Value.string { data := #[] }, Value.int IntKind.i64 0, Value.int IntKind.i64 0] 40)) sub k ty (by have := Hsz.out; omega)
                  simpa using this
                have hnt : Hid (numTok ((bts s).drop i) i = .ok ⟨2, ((bts s).drop i).take n, acc, i⟩) := Lib.hid (num_some _ i n acc Hn.out HBE.out HZ.out (by rw [← Hv.out, List.drop_eq_nil_of_le (by rw [List.length_take]; omega)]; rfl))
                simp only [World.iter] at hnx ⊢
                go_wp2_with fail
                refine bodyPost_ret (v := .agg #[.int .i64 2, .string (s.extract i (i + n)), .int .i64 acc, .int .i64 i]) (by simp [results, Tryd.results51, go_sem]) rfl ?_
                unfold NumPost; rw [hnt.out]
                exact ⟨by simp only [tokV, tokA, strV, extract_bts], ((Below.refl _ _).alloc (Nat.le_refl _) _).alloc (by simp) _⟩
        · have HBAD : Hid (numTok ((bts s).drop i) i = .err 14 i) := Lib.hid (by simp [numTok, hz])
          obtain ⟨h1, h0⟩ := LEADT.out hz
          clear hz
          go_enter Tryd.func51, Tryd.ntmps51
          go_wp2_with fail
          refine (H48.out _).mono ?_
          rintro e w' ⟨rfl, rfl⟩
          go_wp2_with (first | (go_at_call 47; refine (f47_any _ _).mono ?_; rintro e w' ⟨rfl, rfl⟩; simp only [hl]) | (go_at_call 28; refine (f28_any _ _ _).mono ?_; rintro e w' ⟨rfl, rfl⟩))
          refine ⟨rfl, ?_, (Below.refl _ _).alloc (Nat.le_refl _) _⟩
          rw [HBAD.out]
      · have HBAD : Hid (numTok ((bts s).drop i) i = .err 14 i) := Lib.hid (by simp [numTok, HB.out, h95])
        go_enter Tryd.func51, Tryd.ntmps51
        go_wp2_with fail
        refine (H48.out _).mono ?_
        rintro e w' ⟨rfl, rfl⟩
        go_wp2_with (first | (go_at_call 47; refine (f47_any _ _).mono ?_; rintro e w' ⟨rfl, rfl⟩; simp only [hl]) | (go_at_call 28; refine (f28_any _ _ _).mono ?_; rintro e w' ⟨rfl, rfl⟩))
        refine ⟨rfl, ?_, (Below.refl _ _).alloc (Nat.le_refl _) _⟩
        rw [HBAD.out]
    · have HBAD : Hid (numTok ((bts s).drop i) i = .err 14 i) := Lib.hid (by simp [numTok, HB.out, hl])
      go_enter Tryd.func51, Tryd.ntmps51
      go_wp2_with fail
      refine (H48.out _).mono ?_
      rintro e w' ⟨rfl, rfl⟩
      go_wp2_with (first | (go_at_call 47; refine (f47_any _ _).mono ?_; rintro e w' ⟨rfl, rfl⟩; simp only [hl]) | (go_at_call 28; refine (f28_any _ _ _).mono ?_; rintro e w' ⟨rfl, rfl⟩))
      refine ⟨rfl, ?_, (Below.refl _ _).alloc (Nat.le_refl _) _⟩
      rw [HBAD.out]
  · have HBE := Lib.hid (BADN.out hend)
    cases hz : lead0 ((bts s).drop i)
    · have HZ := Lib.hid hz; clear hz
      by_cases h1 : 1 < n
      · have h0 : ((s[i].toNat : Int) == 48) = false := LEAD.out h1 HZ.out
        go_enter Tryd.func51, Tryd.ntmps51
        go_wp2_with fail
        refine (H48.out _).mono ?_
        rintro e w' ⟨rfl, rfl⟩
        go_wp2_with (first | (go_at_call 47; refine (f47_any _ _).mono ?_; rintro e w' ⟨rfl, rfl⟩; simp only [hl]) | (go_at_call 28; refine (f28_any _ _ _).mono ?_; rintro e w' ⟨rfl, rfl⟩))
        obtain ⟨sub, hsub, hsz, hdec⟩ := SUB.out
        rw [← hsub]
        have Hsub := Lib.hid hsub; clear hsub
        have Hsz := Lib.hid hsz; clear hsz
        have Hdec := Lib.hid hdec; clear hdec
        have HIP : Hid (∀ k, (World.iter (w.alloc (Obj.cells #[Value.int IntKind.i64 0, Value.string { data := #[] }, Value.int IntKind.i64 0, Value.int IntKind.i64 0] 40)) sub k).iterPos (w.heap.size + 1) = k) := Lib.hid (fun k => by
          have := World.iterPos_iter (w.alloc (Obj.cells #[Value.int IntKind.i64 0, Value.string { data := #[] }, Value.int IntKind.i64 0, Value.int IntKind.i64 0] 40)) sub k
          simpa using this)
        go_loopw [6] (fun v wr => ∃ (k : Nat) (acc : Int), k ≤ n ∧ wr = World.iter (w.alloc (Obj.cells #[Value.int IntKind.i64 0, Value.string { data := #[] }, Value.int IntKind.i64 0, Value.int IntKind.i64 0] 40)) sub k ∧ v = .int .i64 acc ∧ 0 ≤ acc ∧ acc ≤ 9999999 ∧ numV ((((bts s).drop i).take n).drop k) acc = numV (((bts s).drop i).take n) 0) (fun _ wr => n - wr.iterPos (w.heap.size + 1))
        case atStart => exact ⟨0, 0, by omega, rfl, rfl, by omega, by omega, rfl⟩
        case round =>
          obtain ⟨k, acc, hk, rfl, rfl, ha0, ha1, hv⟩ := hrel
          have Hv := Lib.hid hv; clear hv
          by_cases hlt : k < n
          · obtain ⟨b, hb0, hb1, hdc, hdr⟩ := Hdec.out k hlt
            have hnx : ∀ ty, (Instr.next (.pointer (some ⟨w.heap.size + 1, 0, none⟩)) true ty).run Tryd.prog (World.iter (w.alloc (Obj.cells #[Value.int IntKind.i64 0, Value.string { data := #[] }, Value.int IntKind.i64 0, Value.int IntKind.i64 0] 40)) sub k) = .ok (.tuple #[.bool true, .int .i64 k, .int .i32 b.toNat]) (World.iter (w.alloc (Obj.cells #[Value.int IntKind.i64 0, Value.string { data := #[] }, Value.int IntKind.i64 0, Value.int IntKind.i64 0] 40)) sub (k + 1)) := fun ty => by
              have := run_next_any (P := Tryd.prog) (w.alloc (Obj.cells #[Value.int IntKind.i64 0, Value.string { data := #[] }, Value.int IntKind.i64 0, Value.int IntKind.i64 0] 40)) sub k ty (by have := Hsz.out; omega)
              rw [hdc] at this; simpa using this
            have Hdc := Lib.hid hdc; clear hdc
            have Hdr := Lib.hid hdr; clear hdr
            by_cases hbig : acc * 10 + ((b.toNat : Int) - 48) > 9999999
            · go_wp2_with (go_at_call 28; refine (f28_any _ _ _).mono ?_; rintro e w' ⟨rfl, rfl⟩)
              refine ⟨rfl, ?_⟩
              have hnt : numTok ((bts s).drop i) i = .err 8 i := num_none _ i n Hn.out HBE.out HZ.out (by rw [← Hv.out, Hdr.out]; simp only [numV]; rw [if_pos (by omega)])
              unfold NumPost; rw [hnt]
              exact ⟨rfl, ((Below.refl _ _).alloc (Nat.le_refl _) _).alloc (by simp) _⟩
            · go_wp2_with fail
              refine ⟨⟨k + 1, _, by omega, rfl, rfl, by omega, by omega, ?_⟩, ?_⟩
              · rw [← Hv.out, Hdr.out]; simp only [numV]; rw [if_neg (by omega)]
              · rw [HIP.out, HIP.out]; omega
          · have hnx : ∀ ty, (Instr.next (.pointer (some ⟨w.heap.size + 1, 0, none⟩)) true ty).run Tryd.prog (World.iter (w.alloc (Obj.cells #[Value.int IntKind.i64 0, Value.string { data := #[] }, Value.int IntKind.i64 0, Value.int IntKind.i64 0] 40)) sub k) = .ok (.tuple #[.bool false]) (World.iter (w.alloc (Obj.cells #[Value.int IntKind.i64 0, Value.string { data := #[] }, Value.int IntKind.i64 0, Value.int IntKind.i64 0] 40)) sub k) := fun ty => by
              have := run_next_end (P := Tryd.prog) (w.alloc (Obj.cells #[Value.int IntKind.i64 0, Value.string { data := #[] }, Value.int IntKind.i64 0, Value.int IntKind.i64 0] 40)) sub k ty (by have := Hsz.out; omega)
              simpa using this
            have hnt : Hid (numTok ((bts s).drop i) i = .ok ⟨2, ((bts s).drop i).take n, acc, i⟩) := Lib.hid (num_some _ i n acc Hn.out HBE.out HZ.out (by rw [← Hv.out, List.drop_eq_nil_of_le (by rw [List.length_take]; omega)]; rfl))
            simp only [World.iter] at hnx ⊢
            go_wp2_with fail
            refine bodyPost_ret (v := .agg #[.int .i64 2, .string (s.extract i (i + n)), .int .i64 acc, .int .i64 i]) (by simp [results, Tryd.results51, go_sem]) rfl ?_
            unfold NumPost; rw [hnt.out]
            exact ⟨by simp only [tokV, tokA, strV, extract_bts], ((Below.refl _ _).alloc (Nat.le_refl _) _).alloc (by simp) _⟩
      · 
        go_enter Tryd.func51, Tryd.ntmps51
        go_wp2_with fail
        refine (H48.out _).mono ?_
        rintro e w' ⟨rfl, rfl⟩
        go_wp2_with (first | (go_at_call 47; refine (f47_any _ _).mono ?_; rintro e w' ⟨rfl, rfl⟩; simp only [hl]) | (go_at_call 28; refine (f28_any _ _ _).mono ?_; rintro e w' ⟨rfl, rfl⟩))
        obtain ⟨sub, hsub, hsz, hdec⟩ := SUB.out
        rw [← hsub]
        have Hsub := Lib.hid hsub; clear hsub
        have Hsz := Lib.hid hsz; clear hsz
        have Hdec := Lib.hid hdec; clear hdec
        have HIP : Hid (∀ k, (World.iter (w.alloc (Obj.cells #[Value.int IntKind.i64 0, Value.string { data := #[] }, Value.int IntKind.i64 0, Value.int IntKind.i64 0] 40)) sub k).iterPos (w.heap.size + 1) = k) := Lib.hid (fun k => by
          have := World.iterPos_iter (w.alloc (Obj.cells #[Value.int IntKind.i64 0, Value.string { data := #[] }, Value.int IntKind.i64 0, Value.int IntKind.i64 0] 40)) sub k
          simpa using this)
        go_loopw [6] (fun v wr => ∃ (k : Nat) (acc : Int), k ≤ n ∧ wr = World.iter (w.alloc (Obj.cells #[Value.int IntKind.i64 0, Value.string { data := #[] }, Value.int IntKind.i64 0, Value.int IntKind.i64 0] 40)) sub k ∧ v = .int .i64 acc ∧ 0 ≤ acc ∧ acc ≤ 9999999 ∧ numV ((((bts s).drop i).take n).drop k) acc = numV (((bts s).drop i).take n) 0) (fun _ wr => n - wr.iterPos (w.heap.size + 1))
        case atStart => exact ⟨0, 0, by omega, rfl, rfl, by omega, by omega, rfl⟩
        case round =>
          obtain ⟨k, acc, hk, rfl, rfl, ha0, ha1, hv⟩ := hrel
          have Hv := Lib.hid hv; clear hv
          by_cases hlt : k < n
          · obtain ⟨b, hb0, hb1, hdc, hdr⟩ := Hdec.out k hlt
            have hnx : ∀ ty, (Instr.next (.pointer (some ⟨w.heap.size + 1, 0, none⟩)) true ty).run Tryd.prog (World.iter (w.alloc (Obj.cells #[Value.int IntKind.i64 0, Value.string { data := #[] }, Value.int IntKind.i64 0, Value.int IntKind.i64 0] 40)) sub k) = .ok (.tuple #[.bool true, .int .i64 k, .int .i32 b.toNat]) (World.iter (w.alloc (Obj.cells #[Value.int IntKind.i64 0, Value.string { data := #[] }, Value.int IntKind.i64 0, Value.int IntKind.i64 0] 40)) sub (k + 1)) := fun ty => by
              have := run_next_any (P := Tryd.prog) (w.alloc (Obj.cells #[Value.int IntKind.i64 0, Value.string { data := #[] }, Value.int IntKind.i64 0, Value.int IntKind.i64 0] 40)) sub k ty (by have := Hsz.out; omega)
              rw [hdc] at this; simpa using this
            have Hdc := Lib.hid hdc; clear hdc
            have Hdr := Lib.hid hdr; clear hdr
            by_cases hbig : acc * 10 + ((b.toNat : Int) - 48) > 9999999
            · go_wp2_with (go_at_call 28; refine (f28_any _ _ _).mono ?_; rintro e w' ⟨rfl, rfl⟩)
              refine ⟨rfl, ?_⟩
              have hnt : numTok ((bts s).drop i) i = .err 8 i := num_none _ i n Hn.out HBE.out HZ.out (by rw [← Hv.out, Hdr.out]; simp only [numV]; rw [if_pos (by omega)])
              unfold NumPost; rw [hnt]
              exact ⟨rfl, ((Below.refl _ _).alloc (Nat.le_refl _) _).alloc (by simp) _⟩
            · go_wp2_with fail
              refine ⟨⟨k + 1, _, by omega, rfl, rfl, by omega, by omega, ?_⟩, ?_⟩
              · rw [← Hv.out, Hdr.out]; simp only [numV]; rw [if_neg (by omega)]
              · rw [HIP.out, HIP.out]; omega
          · have hnx : ∀ ty, (Instr.next (.pointer (some ⟨w.heap.size + 1, 0, none⟩)) true ty).run Tryd.prog (World.iter (w.alloc (Obj.cells #[Value.int IntKind.i64 0, Value.string { data := #[] }, Value.int IntKind.i64 0, Value.int IntKind.i64 0] 40)) sub k) = .ok (.tuple #[.bool false]) (World.iter (w.alloc (Obj.cells #[Value.int IntKind.i64 0, Value.string { data := #[] }, Value.int IntKind.i64 0, Value.int IntKind.i64 0] 40)) sub k) := fun ty => by
              have := run_next_end (P := Tryd.prog) (w.alloc (Obj.cells #[Value.int IntKind.i64 0, Value.string { data := #[] }, Value.int IntKind.i64 0, Value.int IntKind.i64 0] 40)) sub k ty (by have := Hsz.out; omega)
              simpa using this
            have hnt : Hid (numTok ((bts s).drop i) i = .ok ⟨2, ((bts s).drop i).take n, acc, i⟩) := Lib.hid (num_some _ i n acc Hn.out HBE.out HZ.out (by rw [← Hv.out, List.drop_eq_nil_of_le (by rw [List.length_take]; omega)]; rfl))
            simp only [World.iter] at hnx ⊢
            go_wp2_with fail
            refine bodyPost_ret (v := .agg #[.int .i64 2, .string (s.extract i (i + n)), .int .i64 acc, .int .i64 i]) (by simp [results, Tryd.results51, go_sem]) rfl ?_
            unfold NumPost; rw [hnt.out]
            exact ⟨by simp only [tokV, tokA, strV, extract_bts], ((Below.refl _ _).alloc (Nat.le_refl _) _).alloc (by simp) _⟩
    · have HBAD : Hid (numTok ((bts s).drop i) i = .err 14 i) := Lib.hid (by simp [numTok, hz])
      obtain ⟨h1, h0⟩ := LEADT.out hz
      clear hz
      go_enter Tryd.func51, Tryd.ntmps51
      go_wp2_with fail
      refine (H48.out _).mono ?_
      rintro e w' ⟨rfl, rfl⟩
      go_wp2_with (first | (go_at_call 47; refine (f47_any _ _).mono ?_; rintro e w' ⟨rfl, rfl⟩; simp only [hl]) | (go_at_call 28; refine (f28_any _ _ _).mono ?_; rintro e w' ⟨rfl, rfl⟩))
      refine ⟨rfl, ?_, (Below.refl _ _).alloc (Nat.le_refl _) _⟩
      rw [HBAD.out]
end Go.Proofs.YtcaaadhhaanbcaaDoor
