/-
  Tours: how many there are, and how many are closed.
-/
import Derived.Test.YtlpaklmfgldkoaaDoorTOb
import Derived.Test.YtlpaklmfgldkoaaDoorLibBt
namespace Go.Proofs.YtlpaklmfgldkoaaDoor
open Go Go.GL

theorem w64_form (x : Int) : ∃ q, w64 x = x - 18446744073709551616 * q := ⟨(x + 9223372036854775808) / 18446744073709551616, by rw [show w64 x = _ from IntKind.wrap_i64 x]; omega⟩
theorem w64_off (x t : Int) : w64 (x - 18446744073709551616 * t) = w64 x := by
  rw [show w64 (x - 18446744073709551616 * t) = _ from IntKind.wrap_i64 _, show w64 x = _ from IntKind.wrap_i64 x]; omega
theorem w64_w64 (x : Int) : w64 (w64 x) = w64 x := by
  obtain ⟨q, h⟩ := w64_form x
  rw [h, w64_off, h]
theorem w64_addl (a b : Int) : w64 (w64 a + b) = w64 (a + b) := by
  obtain ⟨q, h⟩ := w64_form a
  rw [h, show a - 18446744073709551616 * q + b = (a + b) - 18446744073709551616 * q by omega, w64_off]
theorem w64_addr (a b : Int) : w64 (a + w64 b) = w64 (a + b) := by rw [Int.add_comm, w64_addl, Int.add_comm]

theorem stepB_symm (w a b : Nat) : stepB w a b = stepB w b a := by
  unfold stepB
  rw [decide_eq_decide]
  have e : (((a % w : Nat) : Int) - ((b % w : Nat) : Int)) * (((a / w : Nat) : Int) - ((b / w : Nat) : Int)) = (((b % w : Nat) : Int) - ((a % w : Nat) : Int)) * (((b / w : Nat) : Int) - ((a / w : Nat) : Int)) := by
    rw [← Int.neg_sub, ← Int.neg_sub ((b / w : Nat) : Int), Int.neg_mul_neg]
  rw [e]

/-- The ways on: how many, and how many of them are closed. -/
def sumI (l : List Int) : Int := l.foldl (· + ·) 0
theorem sumI_snoc (l : List Int) (x : Int) : sumI (l ++ [x]) = sumI l + x := by
  unfold sumI
  rw [List.foldl_append]; rfl
def cnt (w N from_ : Nat) (sel : Bool) : Nat → List Int → Nat → Int
  | 0, _, p => if sel then (if stepB w from_ p then 1 else 0) else 1
  | m + 1, way, p => sumI ((knb w N p).map (fun x => if x ∈ way then 0 else cnt w N from_ sel m (way ++ [x]) x.toNat))

theorem at_r {l : List Int} (n : Int) (hl : l.length ≤ 17592186044416) : ∃ v, gameroomref_at_m l n = some v ∧ (0 ≤ v ↔ n ∈ l) := by
  refine ⟨fidx (fun x => x == n) l, ?_, ?_⟩
  · unfold gameroomref_at_m
    rw [search_loop (l := l) (fun x => x == n) (fun i => Fl.ret (i : Int)) (Fl.go ()) ?_ ?_ ?_]
    · unfold fidx
      cases l.findIdx? (fun x => x == n) <;> rfl
    · intro i x hx hp
      have hb := idx_bd hx
      simp only [gameroomref_at_L1, gameroomref_at_J2]
      rw [if_pos (by simpa using hb.2), asrt_pos hb, geti_some hx]
      exact if_pos hp
    · intro i x hx hp
      have hb := idx_bd hx
      simp only [gameroomref_at_L1, gameroomref_at_J2]
      rw [if_pos (by simpa using hb.2), asrt_pos hb, geti_some hx, if_neg (by simpa using hp)]
      simp only [gameroomref_at_J3]
      rw [w64_succ (by omega)]
    · simp only [gameroomref_at_L1]
      rw [if_neg (by simp)]
  · rw [fidx_neg, List.any_eq_true]
    constructor
    · rintro ⟨x, hx, h⟩
      rw [beq_iff_eq] at h
      rw [← h]; exact hx
    · intro h
      exact ⟨n, h, by simp⟩

theorem contains_p {l : List Int} (v : Int) (hs : l.length ≤ 17592186044416) : slices_Contains_m l v = some (decide (v ∈ l)) := by
  unfold slices_Contains_m slices_Index_m
  rw [search_loop (l := l) (fun x => x == v) (fun i => Fl.ret (i : Int)) (Fl.go ()) ?_ ?_ ?_]
  · have hn := fidx_neg (fun x => x == v) l
    unfold fidx at hn
    have hm : l.any (fun x => x == v) = true ↔ v ∈ l := by
      rw [List.any_eq_true]
      constructor
      · rintro ⟨x, hx, h⟩
        rw [beq_iff_eq] at h
        rw [← h]; exact hx
      · intro h
        exact ⟨v, h, by simp⟩
    cases hf : l.findIdx? (fun x => x == v) with
    | none =>
      rw [hf] at hn
      have : ¬ v ∈ l := fun h => by have := hn.2 (hm.2 h); simp at this
      rw [decide_eq_false this]; rfl
    | some i =>
      rw [hf] at hn
      have : v ∈ l := hm.1 (hn.1 (by simp))
      rw [decide_eq_true this]
      simp [slices_Index_K1]
  · intro i x hx hp
    have hb := idx_bd hx
    simp only [slices_Index_L1, slices_Index_J2]
    rw [if_pos (by simpa using hb.2), asrt_pos hb, geti_some hx, if_pos (by rw [beq_iff_eq] at hp ⊢; exact hp.symm)]
  · intro i x hx hp
    have hb := idx_bd hx
    simp only [slices_Index_L1, slices_Index_J2]
    rw [if_pos (by simpa using hb.2), asrt_pos hb, geti_some hx, if_neg (by intro q; rw [beq_iff_eq] at q; rw [q] at hp; simp at hp)]
    simp only [slices_Index_J3]
    rw [w64_succ (by omega)]
  · simp only [slices_Index_L1]
    rw [if_neg (by simp)]

theorem ints_r {l : List Int} (h : l.length ≤ 1000) : gameroomref_Ints_m l = some l := by
  unfold gameroomref_Ints_m
  rw [asrt_pos (by unfold bigN; omega)]; rfl
theorem geti_app {a b : List Int} {j : Nat} (h : j < a.length) : geti (a ++ b) (j : Int) = geti a (j : Int) := by
  rw [geti_nat, geti_nat, List.getD_eq_getElem?_getD, List.getD_eq_getElem?_getD, List.getElem?_append_left h]
theorem geti_snoc (a : List Int) (x : Int) : geti (a ++ [x]) (a.length : Int) = x := by
  rw [geti_nat, List.getD_eq_getElem?_getD, List.getElem?_append_right (Nat.le_refl _), Nat.sub_self]
  rfl

section
variable {w h : Nat}

/-- A way so far. -/
structure Way (w h f : Nat) (way : List Int) (p m : Nat) : Prop where
  len : way.length + m = w * h
  first : geti way 0 = (f : Int)
  last : geti way ((way.length - 1 : Nat) : Int) = (p : Int)
  pos : 1 ≤ way.length
  fin : f < w * h
  pin : p < w * h

theorem Way.next {f : Nat} {way : List Int} {p m b : Nat} (H : Way w h f way p (m + 1)) (hb : b < w * h) : Way w h f (way ++ [(b : Int)]) b m := by
  have hp := H.pos
  have hl := H.len
  refine ⟨by simp; omega, ?_, ?_, by simp, H.fin, hb⟩
  · have := geti_app (a := way) (b := [(b : Int)]) (j := 0) (by omega)
    rw [show ((0 : Nat) : Int) = 0 from rfl] at this
    rw [this]; exact H.first
  · rw [List.length_append, List.length_singleton, Nat.add_sub_cancel]
    exact geti_snoc _ _

theorem tours_r (hw : 1 ≤ w ∧ w ≤ 8) (hh : 1 ≤ h ∧ h ≤ 8) {f : Nat} : ∀ (m : Nat) (way : List Int) (p : Nat), Way w h f way p m → gameroomref_KnightTours_mF (m + 1) w h way = some (w64 (cnt w (w * h) f false m way p), w64 (cnt w (w * h) f true m way p))
  | 0, way, p, H => by
    have hN := wh64 hw hh
    have hp := H.pos
    have hl := H.len
    have hf := H.fin
    have hpi := H.pin
    show gameroomref_KnightTours_B (gameroomref_KnightTours_mF 0) w h way = _
    unfold gameroomref_KnightTours_B gameroomref_KnightTours_J2
    have hlast := H.last
    rw [w64_of (x := (way.length : Int) - 1) (by omega), asrt_pos (by omega), w64_wh hw hh, if_pos (by rw [beq_iff_eq]; omega), asrt_pos (by omega), H.first, show (way.length : Int) - 1 = ((way.length - 1 : Nat) : Int) by omega, hlast, step_r hw (by omega) (by omega), Option.bind_some]
    simp only [cnt]
    cases stepB w f p <;> rfl
  | m + 1, way, p, H => by
    have hN := wh64 hw hh
    have hp := H.pos
    have hl := H.len
    have hf := H.fin
    have hpi := H.pin
    have hlast := H.last
    show gameroomref_KnightTours_B (gameroomref_KnightTours_mF (m + 1)) w h way = _
    unfold gameroomref_KnightTours_B gameroomref_KnightTours_J1
    rw [w64_of (x := (way.length : Int) - 1) (by omega), asrt_pos (by omega), w64_wh hw hh, if_neg (by rw [beq_iff_eq]; omega)]
    let g : Bool → Int → Int := fun sel x => if x ∈ way then 0 else cnt w (w * h) f sel m (way ++ [x]) x.toNat
    let S : Bool → Nat → Int := fun sel i => sumI ((((List.range i).filter (fun b => stepB w p b)).map (fun (b : Nat) => (b : Int))).map (g sel))
    have hS : ∀ sel i, S sel (i + 1) = S sel i + (if stepB w p i = true then g sel (i : Int) else 0) := fun sel i => by
      show sumI _ = sumI _ + _
      rw [List.range_succ, List.filter_append, List.map_append, List.map_append]
      cases hb : stepB w p i with
      | true =>
        rw [show List.filter (fun b => stepB w p b) [i] = [i] by simp [hb], if_pos rfl]
        exact sumI_snoc _ _
      | false =>
        rw [show List.filter (fun b => stepB w p b) [i] = [] by simp [hb], if_neg (by decide)]
        simp
    have hloop : loop (gameroomref_KnightTours_L1 (gameroomref_KnightTours_mF (m + 1)) w h way) (0, 0, 0) = some (w64 (S false (w * h)), w64 (S true (w * h))) := by
      refine loop_from (f := fun i => (w64 (S false i), w64 (S true i), (i : Int))) (w * h) (by rfl) (fun i hi => ?_) ?_
      · simp only [gameroomref_KnightTours_L1]
        rw [w64_wh hw hh, if_pos (decide_eq_true (by omega))]
        unfold gameroomref_KnightTours_J4 gameroomref_KnightTours_J5
        rw [w64_of (x := (way.length : Int) - 1) (by omega), show (way.length : Int) - 1 = ((way.length - 1 : Nat) : Int) by omega, hlast, step_r hw (by omega) (by omega), Option.bind_some, w64_of (x := (i : Int) + 1) (by omega), hS, hS]
        cases hb : stepB w p i with
        | false =>
          rw [if_neg (by decide), Option.bind_some, if_neg (by simp), if_neg (by decide), if_neg (by decide), Int.add_zero, Int.add_zero]
          rfl
        | true =>
          obtain ⟨v, hv, hvi⟩ := at_r (l := way) (i : Int) (by omega)
          rw [if_pos rfl, hv, Option.bind_some, if_pos rfl, if_pos rfl]
          by_cases hin : (i : Int) ∈ way
          · have e0 : ∀ sel, g sel (i : Int) = 0 := fun sel => if_pos hin
            rw [if_neg (by simp; exact hvi.2 hin), e0, e0, Int.add_zero, Int.add_zero]
            rfl
          · have e0 : ∀ sel, g sel (i : Int) = cnt w (w * h) f sel m (way ++ [(i : Int)]) i := fun sel => if_neg hin
            have hv0 : v < 0 := by
              have : ¬ 0 ≤ v := fun q => hin (hvi.1 q)
              omega
            rw [if_pos (by simp; exact hv0), ints_r (by omega), Option.bind_some, asrt_pos (by unfold bigN; omega), tours_r hw hh m _ _ (H.next hi), Option.bind_some, w64_addl, w64_addr, w64_addl, w64_addr, e0, e0]
            rfl
      · simp only [gameroomref_KnightTours_L1]
        rw [w64_wh hw hh, if_neg (by simp)]
    rw [hloop]
    rfl

theorem count_p (hw : 1 ≤ w ∧ w ≤ 8) (hh : 1 ≤ h ∧ h ≤ 8) (h20 : w * h ≤ 20) {f : Nat} : ∀ (m : Nat) (way : List Int) (p seen : Nat) (z1 z2 : Int), Way w h f way p m → seen < 2 ^ 20 → (∀ b : Nat, b < w * h → seen.testBit b = decide ((b : Int) ∈ way)) → w64 z1 = z1 → w64 z2 = z2 →
    tour_Count_1_mF (m + 1) p seen m z1 (field w h) f z2 = some (w64 (z1 + cnt w (w * h) f false m way p), w64 (z2 + cnt w (w * h) f true m way p))
  | 0, way, p, seen, z1, z2, H, hs, hbit, e1, e2 => by
    have hl := knb_len (w := w) (N := w * h) (p := p)
    have hpi := H.pin
    have hf := H.fin
    show tour_Count_1_B (tour_Count_1_mF 0) p seen ((0 : Nat) : Int) z1 (field w h) f z2 = _
    unfold tour_Count_1_B tour_Count_1_J3
    rw [if_pos (by decide), field_len, asrt_pos (by omega), field_row hpi, contains_p _ (by omega), Option.bind_some]
    simp only [cnt]
    have hm : (f : Int) ∈ knb w (w * h) p ↔ stepB w f p = true := by
      rw [knb_mem, stepB_symm]
      constructor
      · rintro ⟨b, _, e, hb⟩
        have : b = f := by omega
        subst this; exact hb
      · intro hb
        exact ⟨f, hf, rfl, hb⟩
    by_cases hq : stepB w f p = true
    · rw [if_pos (decide_eq_true (hm.2 hq))]
      simp [hq]
    · rw [if_neg (by rw [decide_eq_true_eq]; exact fun z => hq (hm.1 z))]
      simp [hq, e2]
  | m + 1, way, p, seen, z1, z2, H, hs, hbit, e1, e2 => by
    have hN := wh64 hw hh
    have hl := knb_len (w := w) (N := w * h) (p := p)
    have hpi := H.pin
    have hf := H.fin
    have hwl := H.len
    show tour_Count_1_B (tour_Count_1_mF (m + 1)) p seen ((m + 1 : Nat) : Int) z1 (field w h) f z2 = _
    unfold tour_Count_1_B tour_Count_1_J2
    rw [if_neg (by rw [beq_iff_eq]; omega), field_len, asrt_pos (by omega)]
    let g : Bool → Int → Int := fun sel x => if x ∈ way then 0 else cnt w (w * h) f sel m (way ++ [x]) x.toNat
    let S : Bool → Nat → Int := fun sel i => sumI (((knb w (w * h) p).take i).map (g sel))
    have hS : ∀ sel i, i < (knb w (w * h) p).length → S sel (i + 1) = S sel i + g sel (geti (knb w (w * h) p) (i : Int)) := fun sel i hi => by
      show sumI _ = sumI _ + _
      rw [take_nextI hi, List.map_append]
      exact sumI_snoc _ _
    have hloop : loop (tour_Count_1_L1 (tour_Count_1_mF (m + 1)) p seen ((m + 1 : Nat) : Int) (field w h) f) (z1, z2, 0) = some (w64 (z1 + S false (knb w (w * h) p).length), w64 (z2 + S true (knb w (w * h) p).length)) := by
      refine loop_from (f := fun i => (w64 (z1 + S false i), w64 (z2 + S true i), (i : Int))) (knb w (w * h) p).length ?_ (fun i hi => ?_) ?_
      · have s0 : ∀ sel, S sel 0 = 0 := fun sel => rfl
        simp only [s0, Int.add_zero, e1, e2]
        rfl
      · obtain ⟨b, hb, hb2, hb3⟩ := row_in hi
        have hx := hbit b hb2
        simp only [tour_Count_1_L1]
        rw [field_row hpi, if_pos (decide_eq_true (by omega))]
        unfold tour_Count_1_J4 tour_Count_1_J5
        rw [field_row hpi, asrt_pos (by omega), hb, asrt_pos (by omega), w64_of (x := (i : Int) + 1) (by omega), hS false i hi, hS true i hi, hb]
        have hand : (andK .u64 (shrK .u64 (seen : Int) (b : Int)) 1 == 0) = !(seen.testBit b) := by
          have hb1 := bitN (x := seen) (i := b) (by omega) (by omega)
          have hd : seen / 2 ^ b < 18446744073709551616 := Nat.lt_of_le_of_lt (Nat.div_le_self _ _) (by omega)
          have e := andN (x := seen / 2 ^ b) (y := 1) hd (by omega)
          rw [shrN (by omega)] at hb1 ⊢
          have e' : andK .u64 ((seen / 2 ^ b : Nat) : Int) 1 = (((seen / 2 ^ b) &&& 1 : Nat) : Int) := e
          rw [e'] at hb1 ⊢
          rw [Nat.and_one_is_mod] at hb1 ⊢
          rw [← hb1]
          have : seen / 2 ^ b % 2 = 0 ∨ seen / 2 ^ b % 2 = 1 := by omega
          rcases this with q | q <;> rw [q] <;> rfl
        rw [hand, hx]
        by_cases hin : (b : Int) ∈ way
        · have e0 : ∀ sel, g sel (b : Int) = 0 := fun sel => if_pos hin
          rw [decide_eq_true hin, if_neg (by decide), e0, e0, Int.add_zero, Int.add_zero]
          rfl
        · have e0 : ∀ sel, g sel (b : Int) = cnt w (w * h) f sel m (way ++ [(b : Int)]) b := fun sel => if_neg hin
          have ih := count_p hw hh h20 m (way ++ [(b : Int)]) b (seen ||| 2 ^ b) (w64 (z1 + S false i)) (w64 (z2 + S true i)) (H.next hb2) (Nat.or_lt_two_pow hs (Nat.pow_lt_pow_right (by omega) (by omega))) (fun x hxN => by
            rw [bit_or_pow, hbit x hxN, ← Bool.decide_or, decide_eq_decide, List.mem_append, List.mem_singleton]
            constructor
            · rintro (q | q)
              · exact .inl q
              · exact .inr (by omega)
            · rintro (q | q)
              · exact .inl q
              · exact .inr (by omega)) (w64_w64 _) (w64_w64 _)
          rw [decide_eq_false hin, if_pos (by decide), asrt_pos (by omega), shlN (by omega), orN (by omega) (pow_lt (by omega)), w64_of (x := ((m + 1 : Nat) : Int) - 1) (by omega), show ((m + 1 : Nat) : Int) - 1 = (m : Int) by omega, ih, Option.bind_some, w64_addl, w64_addl, e0, e0, Int.add_assoc, Int.add_assoc]
          rfl
      · simp only [tour_Count_1_L1]
        rw [field_row hpi, if_neg (by simp)]
    rw [hloop, Option.bind_some]
    have eS : ∀ sel, S sel (knb w (w * h) p).length = cnt w (w * h) f sel (m + 1) way p := fun sel => by
      show sumI _ = sumI _
      rw [List.take_length]
    rw [eS, eS]
    rfl
end
end Go.Proofs.YtlpaklmfgldkoaaDoor
