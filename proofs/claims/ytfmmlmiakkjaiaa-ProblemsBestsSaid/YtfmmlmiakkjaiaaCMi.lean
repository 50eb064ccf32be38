import Derived.Test.YtfmmlmiakkjaiaaCMh
namespace Go.Proofs.Ytfmmlmiakkjaiaa
open Go Go.GL Go.RowKit
section
variable {p : List Int} {t c e h f : Int} {a b : Nat} {k : Int}
theorem mayGo_p (I : Inv p t c e h f) (ha : a < 64) (hb : b < 64) (hs : sideI (geti p a) = t) : rf_mayGo_m p t c e h f a b = some (mayB p t e a b) := by
 have hl := I.len
 have ht := I.tt
 have hsg : sgn t = 1 ∨ sgn t = -1 := by rcases sgn_t ht with h | h <;> omega
 have hsa := I.sm.2 a ha
 have hsb := I.sm.2 b hb
 have hnz : geti p a ≠ 0 := by intro e0; rw [e0] at hs; have : sideI 0 = -1 := rfl; omega
 have hatt : rf_Attacks_m p (a : Int) (b : Int) = some (attB p a b) := attacks_r hl ha hb ⟨hsa, hnz⟩
 unfold rf_mayGo_m
 have wa : w64 (geti p a * sgn t) = geti p a * sgn t := w64_of (by rcases hsg with h | h <;> rw [h] <;> omega)
 have wb : w64 (geti p b * sgn t) = geti p b * sgn t := w64_of (by rcases hsg with h | h <;> rw [h] <;> omega)
 rw [sign_t ht, Option.bind_some, asrt_pos (by omega), asrt_pos (fun _ => by omega), wa, wb]
 unfold mayB
 by_cases h0 : (decide (geti p a * sgn t ≤ 0) || decide (0 < geti p b * sgn t)) = true
 ·rw [if_pos h0, if_pos h0]
 rw [if_neg h0, if_neg h0]
 unfold rf_mayGo_J1
 rw [wa]
 by_cases h1 : geti p a * sgn t = 1
 ·rw [if_neg (by simp [h1]), if_neg (by simp [h1])]
  unfold rf_mayGo_J2
  rw [hatt, Option.bind_some]
  cases hab : attB p a b with
  | true =>
   simp only [if_true]
   rw [asrt_pos (by omega)]
  | false =>
   simp only [Bool.false_eq_true, if_false]
   have hn1 : (geti p a).natAbs = 1 := by rcases hsg with h | h <;> rw [h] at h1 <;> omega
   have hp8 := I.pw a ha hn1
   unfold rf_mayGo_J3
   rw [w64_of (x := 8 * sgn t) (by omega), w64_of (x := (a : Int) + 8 * sgn t) (by omega)]
   by_cases h8 : (b : Int) = a + 8 * sgn t
   ·rw [if_pos (by simp [h8]), if_pos h8, asrt_pos (by omega)]
   ·rw [if_neg (by simpa using h8), if_neg h8]
    have key : ∀ first : Int, first = 1 + 5 * t → rf_mayGo_J5 p a b (sgn t) first = some ((decide (((a / 8 : Nat) : Int) = 1 + 5 * t) && decide ((b : Int) = a + 16 * sgn t)) && ((geti p b == 0) && (geti p ((a : Int) + 8 * sgn t) == 0))) := by
     intro first hfirst
     unfold rf_mayGo_J5
     rw [w64_of (x := 8 * sgn t) (by omega), w64_of (x := (a : Int) + 8 * sgn t) (by omega), w64_of (x := 16 * sgn t) (by omega), w64_of (x := (a : Int) + 16 * sgn t) (by omega), show Int.tdiv (a : Int) 8 = ((a / 8 : Nat) : Int) from tdiv_nat a 8, w64_of (x := ((a / 8 : Nat) : Int)) (by omega), asrt_pos (fun _ => by omega), asrt_pos (fun _ => by omega), hfirst]
     have e1 : (((a / 8 : Nat) : Int) == 1 + 5 * t) = decide (((a / 8 : Nat) : Int) = 1 + 5 * t) := by rw [Bool.eq_iff_iff, beq_iff_eq, decide_eq_true_eq]
     have e2 : ((b : Int) == (a : Int) + 16 * sgn t) = decide ((b : Int) = a + 16 * sgn t) := by rw [Bool.eq_iff_iff, beq_iff_eq, decide_eq_true_eq]
     rw [e1, e2, Bool.and_assoc]
    unfold rf_mayGo_J4
    rcases sgn_t ht with ⟨rfl, hh⟩ | ⟨rfl, hh⟩
    ·rw [if_neg (by rw [hh]; decide), key 1 (by decide)]
    ·rw [if_pos (by rw [hh]; decide), key 6 (by decide)]
 ·rw [if_pos (by simpa using h1), if_pos h1, hatt, Option.bind_some]
theorem seek_all {step : Int → Option (St Int (Fl Unit Int))} {good : Nat → Bool} {cells : List Nat} (hstep : ∀ (i x : Nat), cells[i]? = some x → step (i : Int) = some (if good x = true then .next ((i + 1 : Nat) : Int) else .done (.ret (-1)))) (hend : step (cells.length : Int) = some (.done (.go ()))) :
  loop step 0 = some (if cells.all good = true then .go () else .ret (-1)) := by
 have key : ∀ (r : List Nat) (i : Nat), cells.drop i = r → i + r.length = cells.length → loop step (i : Int) = some (if r.all good = true then .go () else .ret (-1)) := by
  intro r
  induction r with
  | nil =>
   intro i _ hi
   simp only [List.length_nil, Nat.add_zero] at hi
   rw [hi]
   exact loop_done hend
  | cons x r ih =>
   intro i hd hi
   have hx : cells[i]? = some x := by
    have := congrArg (fun l => l[0]?) hd
    simpa using this
   have hd2 : cells.drop (i + 1) = r := by
    have := congrArg List.tail hd
    simpa using this
   have e0 := hstep i x hx
   cases hg : good x with
   | true =>
    rw [hg, if_pos rfl] at e0
    rw [loop_next' e0 (ih (i + 1) hd2 (by simp only [List.length_cons] at hi; omega))]
    simp [hg]
   | false =>
    rw [hg, if_neg (by decide)] at e0
    rw [loop_done e0]
    simp [hg]
 exact key cells 0 (List.drop_zero) (by omega)
theorem castle_r (I : Inv p t c e h f) {n : Nat} (hn : n < 4) : rf_castleTo_m p t c e h f n = some (if castB p t c n = true then (castTo n : Int) else -1) := by
 have ht := I.tt
 have hl := I.len
 unfold rf_castleTo_m
 have hb01 := bit_tab01 I.cc hn
 have hd : w64 (Int.tdiv (n : Int) 2) = ((n / 2 : Nat) : Int) := (rooks_p n hn).2.2
 rw [asrt_pos (by omega), hb01, hd]
 by_cases h0 : (!cbit c n || (((n / 2 : Nat) : Int) != t)) = true
 ·rw [if_pos h0]
  have : castB p t c n = false := by
   unfold castB
   simp only [Bool.or_eq_true, Bool.not_eq_true', bne_iff_ne] at h0
   rcases h0 with h0 | h0
   ·rw [h0]; simp
   ·rw [decide_eq_false h0]; simp
  rw [this]
  rfl
 ·rw [if_neg h0]
  simp only [Bool.or_eq_true, Bool.not_eq_true', bne_iff_ne, not_or, Bool.not_eq_false, Decidable.not_not] at h0
  obtain ⟨hbit, hside⟩ := h0
  have hcb : castB p t c n = ((betw n).all (fun (j : Nat) => geti p j == 0) && (wayC n).all (fun j => (attL p j (1 - t) 64).isEmpty)) := by
   unfold castB
   rw [decide_eq_true hside, hbit]; rfl
  have main : ∀ (bs : List Nat) (K way : Int), geti2 ([([5, 6] : List Int), ([1, 2, 3] : List Int), ([61, 62] : List Int), ([57, 58, 59] : List Int)] : List (List Int)) (n : Int) = bs.map (fun (j : Nat) => (j : Int)) → bs.length ≤ 3 → (∀ j ∈ bs, j < 64) → bs.all (fun (j : Nat) => geti p j == 0) = (betw n).all (fun (j : Nat) => geti p j == 0) →
    geti ([4, 4, 60, 60] : List Int) (n : Int) = K → geti ([1, (-1), 1, (-1)] : List Int) (n : Int) = way → (way = 1 ∨ way = -1) → 0 ≤ K ∧ K ≤ 60 → (∀ (i j : Nat), (wayC n)[i]? = some j → (j : Int) = K + i * way ∧ j < 64) → (wayC n).length = 3 → (castTo n : Int) = K + 2 * way →
    rf_castleTo_J1 p t n = some (if castB p t c n = true then (castTo n : Int) else -1) := by
   intro bs K way hbs hbl hb64 hball hK hway hw hK60 hwc hwl hto
   unfold rf_castleTo_J1
   rw [asrt_pos (by omega), asrt_pos (by omega)]
   have l1 : loop (rf_castleTo_L1 p n) 0 = some (if bs.all (fun (j : Nat) => geti p j == 0) = true then .go () else .ret (-1)) := by
    refine seek_all (fun i x hx => ?_) ?_
    ·have hil := (List.getElem?_eq_some_iff.1 hx).1
     have hx64 := hb64 x (List.mem_of_getElem? hx)
     simp only [rf_castleTo_L1]
     rw [hbs, List.length_map, if_pos (decide_eq_true (by omega))]
     unfold rf_castleTo_J3 rf_castleTo_J4
     have hg : geti (bs.map (fun (j : Nat) => (j : Int))) (i : Int) = (x : Int) := geti_some (by rw [List.getElem?_map, hx]; rfl)
     rw [hbs, hg, List.length_map, asrt_pos (by omega), asrt_pos (by omega), w64_of (by omega)]
     by_cases h0 : geti p (x : Int) = 0
     ·rw [if_neg (by simp [h0]), if_pos (by simp [h0])]; rfl
     ·rw [if_pos (by simpa using h0), if_neg (by simpa using h0)]
    ·simp only [rf_castleTo_L1]
     rw [hbs, List.length_map, if_neg (by simp)]
   rw [l1, Option.bind_some, hcb, hball]
   cases (betw n).all (fun (j : Nat) => geti p j == 0) with
   | false => rfl
   | true =>
    simp only [if_true, Bool.true_and, rf_castleTo_K1]
    unfold rf_castleTo_J2
    rw [asrt_pos (by omega)]
    have l2 : loop (rf_castleTo_L2 p t n) 0 = some (if (wayC n).all (fun j => (attL p j (1 - t) 64).isEmpty) = true then .go () else .ret (-1)) := by
     refine seek_all (fun i x hx => ?_) ?_
     ·have hil := (List.getElem?_eq_some_iff.1 hx).1
      obtain ⟨hxe, hx64⟩ := hwc i x hx
      simp only [rf_castleTo_L2]
      rw [if_pos (decide_eq_true (by omega))]
      unfold rf_castleTo_J6 rf_castleTo_J7
      have hiw : -10 ≤ (i : Int) * way ∧ (i : Int) * way ≤ 10 := by
       have : i = 0 ∨ i = 1 ∨ i = 2 := by omega
       rcases this with rfl | rfl | rfl <;> omega
      rw [hK, hway, w64_of (x := (i : Int) * way) (by omega), w64_of (x := K + (i : Int) * way) (by omega), ← hxe, w64_of (x := 1 - t) (by omega), attackers_r I.sm hx64 (by omega), Option.bind_some, w64_of (x := (i : Int) + 1) (by omega)]
      cases hat : attL p x (1 - t) 64 with
      | nil => rfl
      | cons y r =>
       rw [if_pos (decide_eq_true (by simp only [List.length_cons]; omega))]
       rfl
     ·simp only [rf_castleTo_L2]
      rw [hwl, if_neg (by decide)]
    rw [l2, Option.bind_some]
    cases (wayC n).all (fun j => (attL p j (1 - t) 64).isEmpty) with
    | false => rfl
    | true =>
     simp only [if_true, rf_castleTo_K2]
     unfold rf_castleTo_J5
     rw [hK, hway, w64_of (x := 2 * way) (by omega), w64_of (by omega), hto]
  have hcases : n = 0 ∨ n = 1 ∨ n = 2 ∨ n = 3 := by omega
  have wc : ∀ (x y z : Nat) (K way : Int), (x : Int) = K → (y : Int) = K + way → (z : Int) = K + 2 * way → x < 64 → y < 64 → z < 64 → ∀ (i j : Nat), ([x, y, z] : List Nat)[i]? = some j → (j : Int) = K + i * way ∧ j < 64 := by
   intro x y z K way hx hy hz h1 h2 h3 i j hij
   have hil := (List.getElem?_eq_some_iff.1 hij).1
   simp only [List.length_cons, List.length_nil] at hil
   have : i = 0 ∨ i = 1 ∨ i = 2 := by omega
   rcases this with rfl | rfl | rfl <;> (simp at hij; subst hij; constructor <;> omega)
  rcases hcases with rfl | rfl | rfl | rfl
  ·exact main [5, 6] 4 1 rfl (by decide) (by decide) rfl rfl rfl (by decide) (by decide) (wc 4 5 6 4 1 (by decide) (by decide) (by decide) (by decide) (by decide) (by decide)) rfl rfl
  ·exact main [1, 2, 3] 4 (-1) rfl (by decide) (by decide) (by simp [betw]; rw [Bool.eq_iff_iff]; simp only [Bool.and_eq_true]; exact ⟨fun h => ⟨h.2.2, h.2.1, h.1⟩, fun h => ⟨h.2.2, h.2.1, h.1⟩⟩) rfl rfl (by decide) (by decide) (wc 4 3 2 4 (-1) (by decide) (by decide) (by decide) (by decide) (by decide) (by decide)) rfl rfl
  ·exact main [61, 62] 60 1 rfl (by decide) (by decide) rfl rfl rfl (by decide) (by decide) (wc 60 61 62 60 1 (by decide) (by decide) (by decide) (by decide) (by decide) (by decide)) rfl rfl
  ·exact main [57, 58, 59] 60 (-1) rfl (by decide) (by decide) (by simp [betw]; rw [Bool.eq_iff_iff]; simp only [Bool.and_eq_true]; exact ⟨fun h => ⟨h.2.2, h.2.1, h.1⟩, fun h => ⟨h.2.2, h.2.1, h.1⟩⟩) rfl rfl (by decide) (by decide) (wc 60 59 58 60 (-1) (by decide) (by decide) (by decide) (by decide) (by decide) (by decide)) rfl rfl
theorem ok_loop (I : Inv p t c e h f) (ha : a < 64) (ok : Bool) : loop (rf_MovesAll_L3 p t c e h f a b) (ok, 0) = some (ok || (decide ((geti p a).natAbs = 6) && [0, 1, 2, 3].any (fun n => castB p t c n && decide (castTo n = b)))) := by
 have hsa := I.sm.2 a ha
 by_cases h6 : (geti p a).natAbs = 6
 ·have step : ∀ (n : Nat) (ok : Bool), n < 4 → rf_MovesAll_L3 p t c e h f a b (ok, (n : Int)) = some (.next (ok || (castB p t c n && decide (castTo n = b)), ((n + 1 : Nat) : Int))) := by
   intro n ok hn
   simp only [rf_MovesAll_L3]
   have hd : decide ((n : Int) < 4) = true := decide_eq_true (by omega)
   rw [hd, asrt_pos (fun _ => by rw [I.len]; omega), if_pos rfl, size_small (by omega), Option.bind_some, if_pos (by simp [h6])]
   unfold rf_MovesAll_J8 rf_MovesAll_J9
   rw [castle_r I hn, w64_of (by omega)]
   cases ok with
   | true => rfl
   | false =>
    simp only [Bool.not_false, if_true, Option.bind_some, Bool.false_or]
    congr 4
    cases castB p t c n with
    | true =>
     simp only [if_true, Bool.true_and]
     rw [Bool.eq_iff_iff, beq_iff_eq, decide_eq_true_eq]; omega
    | false =>
     simp only [Bool.false_eq_true, if_false, Bool.false_and]
     rw [Bool.eq_false_iff]; simp
  have e4 : ∀ ok, rf_MovesAll_L3 p t c e h f a b (ok, ((4 : Nat) : Int)) = some (.done ok) := fun ok => by
   simp only [rf_MovesAll_L3]
   have hd : decide (((4 : Nat) : Int) < 4) = false := by decide
   rw [hd, asrt_pos (fun h => by cases h)]
   rfl
  have := loop_next' (step 0 ok (by omega)) (loop_next' (step 1 _ (by omega)) (loop_next' (step 2 _ (by omega)) (loop_next' (step 3 _ (by omega)) (loop_done (e4 _)))))
  rw [show (((0 : Nat) : Int)) = 0 from rfl] at this
  rw [this, decide_eq_true h6]
  congr 1
  simp only [List.any_cons, List.any_nil, Bool.or_false, Bool.true_and, Bool.or_assoc]
 ·rw [decide_eq_false h6]
  refine loop_done ?_
  simp only [rf_MovesAll_L3]
  rw [show decide ((0 : Int) < 4) = true from rfl, asrt_pos (fun _ => by rw [I.len]; omega), if_pos rfl, size_small (by omega), Option.bind_some, if_neg (by simp; omega)]
  simp
theorem safe0 (I : Inv p t c e h f) (m : PL p t c e a b k) : Small (aft p t e a b 0) ∧ ∃ k' : Nat, k' < 64 ∧ geti (aft p t e a b 0) k' = kingV t := by
 have hb := m.bds I
 have hs := next_sm I m
 obtain ⟨k', h1, h2⟩ := next_kg I m t I.tt
 have hk := (h2 k' h1).2 rfl
 have hsg : sgn t = 1 ∨ sgn t = -1 := by rcases sgn_t I.tt with h | h <;> omega
 by_cases hk0 : k = 0
 ·rw [hk0] at hs hk; exact ⟨hs, k', h1, hk⟩
 have hkk := ((pl_iff I).1 m).2.2.2.2
 unfold kindsL at hkk
 split at hkk
 ·rename_i hq
  have hbe : ¬ (b : Int) = e := by
   intro he
   apply hq.2
   rcases I.ep with he' | ⟨b', he', hr, _, _⟩
   ·omega
   ·rcases I.tt with rfl | rfl <;> omega
  have hk25 : 2 ≤ k ∧ k ≤ 5 := by simp only [List.mem_cons, List.not_mem_nil, or_false] at hkk; omega
  have e1 : aft p t e a b k = ((p.set a 0).set b (geti p a)).set b (k * sgn t) := by
   unfold aft
   rw [if_pos hq.1, if_neg hbe, if_pos (by omega)]
  have e2 : aft p t e a b 0 = (p.set a 0).set b (geti p a) := by
   unfold aft
   rw [if_pos hq.1, if_neg hbe, if_neg (by decide)]
  have hl2 : b < ((p.set a 0).set b (geti p a)).length := by simp [I.len]; exact hb.2.1
  have hg : ∀ j : Nat, j ≠ b → geti (aft p t e a b 0) j = geti (aft p t e a b k) j := by
   intro j hj
   rw [e1, e2, geti_set' (i := b) (by omega) hl2, if_neg (by omega)]
  have hgb : geti (aft p t e a b 0) b = geti p a := by rw [e2, set2_get I.len hb.1 hb.2.1, if_pos rfl]
  have hgb' : geti (aft p t e a b k) b = k * sgn t := by rw [e1, geti_set' (by omega) hl2, if_pos rfl]
  have hkb : k' ≠ b := by
   intro h
   rw [h, hgb'] at hk
   have h6 := (kv I.tt).2.2
   rw [← hk] at h6
   rcases hsg with q | q <;> rw [q] at h6 <;> omega
  refine ⟨⟨by rw [aft_len]; exact I.len, fun j hj => ?_⟩, k', h1, by rw [hg k' hkb]; exact hk⟩
  by_cases hjb : j = b
  ·rw [hjb, hgb]; exact I.sm.2 a hb.1
  ·rw [hg j hjb]; exact hs.2 j hj
 ·simp at hkk; exact absurd hkk hk0
theorem to_turn (I : Inv p t c e h f) (ha : a < 64) (hb : b < 64) (hs : sideI (geti p a) = t) {l : List Mv} (hl : l.length ≤ 900000) : rf_MovesAll_L2 p t c e h f a (l, (b : Int)) = some (.next (l ++ refTo p t c e a b, ((b + 1 : Nat) : Int))) := by
 have ht := I.tt
 have hsa := I.sm.2 a ha
 simp only [rf_MovesAll_L2]
 rw [if_pos (decide_eq_true (by omega))]
 unfold rf_MovesAll_J5
 rw [mayGo_p I ha hb hs, Option.bind_some, ok_loop I ha, Option.bind_some]
 simp only [rf_MovesAll_K3]
 have hpl : (mayB p t e a b || (decide ((geti p a).natAbs = 6) && [0, 1, 2, 3].any (fun n => castB p t c n && decide (castTo n = b)))) = plB p t c e a b := rfl
 rw [hpl]
 have hw1 : w64 ((b : Int) + 1) = ((b + 1 : Nat) : Int) := by rw [w64_of (by omega)]; omega
 unfold rf_MovesAll_J7 refTo
 cases hq : plB p t c e a b with
 | false =>
  simp only [Bool.not_false, if_true, Bool.not_true, Bool.false_eq_true, if_false, Option.bind_some, Bool.true_or, Bool.false_and]
  unfold rf_MovesAll_J11 rf_MovesAll_J6
  rw [if_pos rfl, hw1]
  simp
 | true =>
  simp only [Bool.not_true, Bool.false_eq_true, if_false, Bool.not_false, if_true, Bool.true_and, Bool.false_or]
  obtain ⟨k, m⟩ : ∃ k, PL p t c e a b k := by
   have : ∃ k, k ∈ kindsL p a b := by unfold kindsL; split <;> exact ⟨_, List.mem_cons_self⟩
   obtain ⟨k, hk⟩ := this
   exact ⟨k, (pl_iff I).2 ⟨ha, hb, hs, hq, hk⟩⟩
  have h0 := safe0 I m
  rw [done_p I m (.inr rfl), Option.bind_some]
  simp only
  rw [(check_both h0.1 ht h0.2).2, Option.bind_some]
  unfold rf_MovesAll_J11 rf_MovesAll_J10 rf_MovesAll_J6
  cases hc : inChk (aft p t e a b 0) t with
  | true =>
   rw [if_pos rfl, hw1]
   simp
  | false =>
   rw [if_neg (by decide), asrt_pos (by rw [I.len]; omega), size_small (by omega), Option.bind_some, hw1]
   simp only [Bool.not_false, if_true]
   unfold kindsL
   by_cases hk : (geti p a).natAbs = 1 ∧ ¬ (8 ≤ b ∧ b < 56)
   ·rw [if_pos hk, if_pos (by simp only [Bool.and_eq_true, Bool.or_eq_true, beq_iff_eq, decide_eq_true_eq]; omega)]
    have step : ∀ (l : List Mv) (k : Int), l.length ≤ 999999 → 2 ≤ k → k ≤ 5 → rf_MovesAll_L4 a b (l, k) = some (.next (l ++ [mv a b k], k + 1)) := by
     intro l k hl hk2 hk5
     simp only [rf_MovesAll_L4]
     rw [if_pos (decide_eq_true hk5)]
     unfold rf_MovesAll_J12 rf_MovesAll_J13
     rw [asrt_pos (by unfold bigK; omega), w64_of (by omega)]
     rfl
    have s5 : ∀ l, rf_MovesAll_L4 a b (l, 6) = some (.done l) := fun l => by
     simp only [rf_MovesAll_L4]
     exact if_neg (by decide)
    have s1 := step l 2 (by omega) (by omega) (by omega)
    have s2 := step (l ++ [mv a b 2]) 3 (by simp; omega) (by omega) (by omega)
    have s3 := step (l ++ [mv a b 2] ++ [mv a b 3]) 4 (by simp; omega) (by omega) (by omega)
    have s4 := step (l ++ [mv a b 2] ++ [mv a b 3] ++ [mv a b 4]) 5 (by simp; omega) (by omega) (by omega)
    rw [loop_next' s1 (loop_next' s2 (loop_next' s3 (loop_next' s4 (loop_done (s5 _))))), Option.bind_some]
    simp only [rf_MovesAll_K4]
    unfold rf_MovesAll_J6
    rw [hw1]
    simp
   ·rw [if_neg hk, if_neg (by simp only [Bool.and_eq_true, Bool.or_eq_true, beq_iff_eq, decide_eq_true_eq]; omega), asrt_pos (by unfold bigK; omega)]
    rfl
theorem refTo_len (p : List Int) (t c e : Int) (a b : Nat) : (refTo p t c e a b).length ≤ 4 := by
 unfold refTo
 split
 ·rw [List.length_map]; unfold kindsL; split <;> decide
 ·simp
theorem all_p (I : Inv p t c e h f) : rf_MovesAll_m p t c e h f = some (refL p t c e) := by
 have ht := I.tt
 unfold rf_MovesAll_m
 let g := fun (a : Nat) => if sideI (geti p a) ≠ t then [] else (List.range 64).flatMap (refTo p t c e a)
 have hg : ∀ a, (g a).length ≤ 256 := by
  intro a
  show (if sideI (geti p a) ≠ t then [] else (List.range 64).flatMap (refTo p t c e a)).length ≤ 256
  split
  ·simp
  ·have := flatMap_len_le (n := 4) (g := refTo p t c e a) (List.range 64) (fun x _ => refTo_len p t c e a x)
   simpa using this
 have hgl : ∀ n, ((List.range n).flatMap g).length ≤ 256 * n := by
  intro n
  have := flatMap_len_le (n := 256) (g := g) (List.range n) (fun x _ => hg x)
  simpa using this
 have turn : ∀ (a : Nat) (l : List Mv), a < 64 → l.length ≤ 800000 → rf_MovesAll_L1 p t c e h f (l, (a : Int)) = some (.next (l ++ g a, ((a + 1 : Nat) : Int))) := by
  intro a l ha hl
  simp only [rf_MovesAll_L1]
  rw [if_pos (decide_eq_true (by omega))]
  unfold rf_MovesAll_J2 rf_MovesAll_J3
  have hw1 : w64 ((a : Int) + 1) = ((a + 1 : Nat) : Int) := by rw [w64_of (by omega)]; omega
  rw [asrt_pos (by rw [I.len]; omega), sideR_eq, Option.bind_some, hw1]
  have hgd : g a = if sideI (geti p a) ≠ t then [] else (List.range 64).flatMap (refTo p t c e a) := rfl
  rw [hgd]
  by_cases hs : sideI (geti p a) = t
  ·rw [if_neg (by simpa using hs), if_neg (by simpa using hs)]
   unfold rf_MovesAll_J4
   have hin : loop (rf_MovesAll_L2 p t c e h f a) (l, 0) = some (l ++ (List.range 64).flatMap (refTo p t c e a)) := by
    refine loop_from (fun n : Nat => (l ++ (List.range n).flatMap (refTo p t c e a), (n : Int))) 64 (by simp) (fun i hi => ?_) ?_
    ·have q := flatMap_len_le (n := 4) (g := refTo p t c e a) (List.range i) (fun x _ => refTo_len p t c e a x)
     simp only [List.length_range] at q
     rw [to_turn I ha hi hs (by rw [List.length_append]; omega), List.range_succ, List.flatMap_append]
     simp
    ·simp only [rf_MovesAll_L2]
     exact if_neg (by decide)
   rw [hin, Option.bind_some]
   simp only [rf_MovesAll_K2]
   unfold rf_MovesAll_J3
   rw [hw1]
  ·rw [if_pos (by simpa using hs), if_pos hs]
   simp
 have hout : loop (rf_MovesAll_L1 p t c e h f) ([], 0) = some ((List.range 64).flatMap g) := by
  refine loop_from (fun n : Nat => ((List.range n).flatMap g, (n : Int))) 64 (by simp) (fun i hi => ?_) ?_
  ·have q := hgl i
   rw [turn i _ hi (by omega), List.range_succ, List.flatMap_append]
   simp
  ·simp only [rf_MovesAll_L1]
   exact if_neg (by decide)
 rw [hout, Option.bind_some]
 rfl
theorem ref_pl (I : Inv p t c e h f) {m : Mv} (hm : m ∈ refL p t c e) : ∃ a b k, m = mv a b k ∧ PL p t c e a b k ∧ inChk (aft p t e a b k) t = false := by
 obtain ⟨a, b, k, rfl, m, hs⟩ := (refL_mem I).1 hm
 exact ⟨a, b, k, rfl, m, by rw [safe_into I m]; exact hs⟩
theorem step_p (I : Inv p t c e h f) {m : Mv} (hm : m ∈ refL p t c e) : ∃ q t' c' e' h' f', board_After_m p t c e h f m.1 m.2.1 m.2.2 = some (q, t', c', e', h', f') ∧ rf_MoveDone_m p t c e h f m.1 m.2.1 m.2.2 = some (q, t', c', e', h', f') ∧ Inv q t' c' e' h' f' ∧ t' = 1 - t := by
 obtain ⟨a, b, k, rfl, m, hs⟩ := ref_pl I hm
 exact ⟨_, _, _, _, _, _, after_p I m, done_p I m (.inl rfl), I.next m hs, rfl⟩
end
end Go.Proofs.Ytfmmlmiakkjaiaa
