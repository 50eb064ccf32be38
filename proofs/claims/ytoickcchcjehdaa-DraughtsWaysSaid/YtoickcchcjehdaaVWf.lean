/-
  DraughtsWays: boards that may be; the first board; the law.
-/
import Derived.Test.YtoickcchcjehdaaVWe
namespace Go.Proofs.Ytoickcchcjehdaa
open Go Go.GL

def badP (b : List Int) (q : Nat) : Bool := (((decide (geti b (q : Int) < -2)) || (decide ((2 : Int) < geti b (q : Int)))) || ((geti b (q : Int) == 1) && (decide ((q : Int) ≤ 4)))) || ((geti b (q : Int) == (-1)) && (decide ((29 : Int) ≤ (q : Int))))
def c1 (b : List Int) (i : Nat) : Int := (((List.range i).countP fun (q : Nat) => decide (0 < geti b (q : Int)) : Nat) : Int)
def c2 (b : List Int) (i : Nat) : Int := (((List.range i).countP fun (q : Nat) => decide (geti b (q : Int) < 0) : Nat) : Int)
theorem c1_succ (b : List Int) (i : Nat) : c1 b (i + 1) = c1 b i + (if 0 < geti b (i : Int) then 1 else 0) := by
  unfold c1
  rw [List.range_succ, List.countP_append, List.countP_singleton]
  by_cases h : 0 < geti b (i : Int) <;> simp [h]
theorem c2_succ (b : List Int) (i : Nat) : c2 b (i + 1) = c2 b i + (if geti b (i : Int) < 0 then 1 else 0) := by
  unfold c2
  rw [List.range_succ, List.countP_append, List.countP_singleton]
  by_cases h : geti b (i : Int) < 0 <;> simp [h]
theorem c_le (b : List Int) (i : Nat) : 0 ≤ c1 b i ∧ c1 b i ≤ i ∧ 0 ≤ c2 b i ∧ c2 b i ≤ i := by
  have a1 := List.countP_le_length (p := fun q : Nat => decide (0 < geti b (q : Int))) (l := List.range i)
  have a2 := List.countP_le_length (p := fun q : Nat => decide (geti b (q : Int) < 0)) (l := List.range i)
  rw [List.length_range] at a1 a2
  unfold c1 c2
  omega
def mayB (b : List Int) : Bool := !((List.range 33).any (badP b)) && (decide (c1 b 33 ≤ 12) && decide (c2 b 33 ≤ 12))
theorem may_p {b : List Int} {tn : Int} : draughts_May_m b tn = some (if b.length = 33 ∧ geti b 0 = 0 ∧ (tn = 1 ∨ tn = 2) then mayB b else false) := by
  unfold draughts_May_m
  by_cases hf : b.length = 33 ∧ geti b 0 = 0 ∧ (tn = 1 ∨ tn = 2)
  · obtain ⟨hl, h0, ht⟩ := hf
    rw [asrt_pos (fun _ => by omega), if_neg (by rw [h0, hl]; rcases ht with rfl | rfl <;> decide), if_pos ⟨hl, h0, ht⟩]
    unfold draughts_May_J1
    rw [show ((List.replicate 3 (0 : Int)), (0 : Int)) = (([0, c1 b 0, c2 b 0] : List Int), ((0 : Nat) : Int)) from rfl,
      loop_find (f := fun i => (([0, c1 b i, c2 b i] : List Int), (i : Int))) (n := 33) (bad := badP b) (out := (Fl.ret false : Fl (List Int) Bool)) (rd := Fl.go [0, c1 b 33, c2 b 33]) (fun i hi => ?_) ?_, Option.bind_some]
    · unfold mayB
      cases hb : (List.range 33).any (badP b) with
      | true => rfl
      | false =>
        rw [if_neg (by decide)]
        show draughts_May_J2 [0, c1 b 33, c2 b 33] = _
        unfold draughts_May_J2
        rw [asrt_pos (by omega), asrt_pos (fun _ => by omega)]
        rfl
    · unfold draughts_May_L1
      dsimp only
      rw [hl, if_neg (by decide)]
    · have hc := c_le b i
      have J4 : ∀ m, draughts_May_J4 (i : Int) m = some (.next (m, ((i + 1 : Nat) : Int))) := fun m => by
        unfold draughts_May_J4
        rw [w64_of (by omega)]
        rfl
      unfold draughts_May_L1 draughts_May_J3
      dsimp only
      rw [hl, if_pos (by rw [decide_eq_true_eq]; omega), asrt_pos (by omega)]
      show (if badP b i = true then _ else _) = _
      by_cases hb : badP b i = true
      · rw [if_pos hb, if_pos hb]
      · rw [if_neg hb, if_neg hb, c1_succ, c2_succ]
        by_cases hp : 0 < geti b (i : Int)
        · rw [if_pos (by simpa using hp), asrt_pos (by omega), asrt_pos (by omega), asrt_pos (by simp), J4, if_pos hp, if_neg (by omega), Int.add_zero]
          rw [show geti [0, c1 b i, c2 b i] 1 = c1 b i from rfl, w64_of (by omega)]
          rfl
        · rw [if_neg (by simpa using hp), if_neg hp, Int.add_zero]
          by_cases hn : geti b (i : Int) < 0
          · rw [if_pos (by simpa using hn), asrt_pos (by omega), asrt_pos (by omega), asrt_pos (by simp), J4, if_pos hn]
            rw [show geti [0, c1 b i, c2 b i] 2 = c2 b i from rfl, w64_of (by omega)]
            rfl
          · rw [if_neg (by simpa using hn), J4, if_neg hn, Int.add_zero]
  · rw [if_neg hf]
    by_cases hl : b.length = 33
    · rw [asrt_pos (fun _ => by omega), if_pos]
      rw [Bool.or_eq_true, Bool.or_eq_true, bne_iff_ne, bne_iff_ne, Bool.and_eq_true, bne_iff_ne, bne_iff_ne]
      by_cases h0 : geti b 0 = 0
      · refine .inr ⟨fun e => hf ⟨hl, h0, .inl e⟩, fun e => hf ⟨hl, h0, .inr e⟩⟩
      · exact .inl (.inr h0)
    · rw [asrt_pos (fun e => by simp at e; omega), if_pos (by simp; omega)]

theorem may_d {b : List Int} {tn : Int} : gameroomref_DraughtsMay_m b tn = some (if b.length = 33 ∧ geti b 0 = 0 ∧ (tn = 1 ∨ tn = 2) then mayB b else false) := by
  unfold gameroomref_DraughtsMay_m gameroomref_within_m
  by_cases hf : b.length = 33 ∧ geti b 0 = 0 ∧ (tn = 1 ∨ tn = 2)
  · obtain ⟨hl, h0, ht⟩ := hf
    rw [asrt_pos (fun _ => by omega), if_pos (by rw [h0, hl]; decide), Option.bind_some, if_neg (by rw [h0, hl]; rcases ht with rfl | rfl <;> decide), if_pos ⟨hl, h0, ht⟩]
    unfold gameroomref_DraughtsMay_J1
    have z1 : c1 b 1 = 0 := by rw [show (1 : Nat) = 0 + 1 from rfl, c1_succ, show ((0 : Nat) : Int) = 0 from rfl, h0]; rfl
    have z2 : c2 b 1 = 0 := by rw [show (1 : Nat) = 0 + 1 from rfl, c2_succ, show ((0 : Nat) : Int) = 0 from rfl, h0]; rfl
    rw [show ((0 : Int), (0 : Int), (1 : Int)) = (c1 b (0 + 1), c2 b (0 + 1), ((0 + 1 : Nat) : Int)) by rw [Nat.zero_add, z1, z2]; rfl,
      loop_find (f := fun i => (c1 b (i + 1), c2 b (i + 1), ((i + 1 : Nat) : Int))) (n := 32) (bad := fun i => badP b (i + 1)) (out := (Fl.ret false : Fl (Int × Int) Bool)) (rd := Fl.go (c1 b 33, c2 b 33)) (fun i hi => ?_) ?_, Option.bind_some]
    · have e0 : badP b 0 = false := by unfold badP; rw [show ((0 : Nat) : Int) = 0 from rfl, h0]; rfl
      have e : (List.range 32).any (fun i => badP b (i + 1)) = (List.range 33).any (badP b) := by
        rw [show List.range 33 = 0 :: (List.range 32).map Nat.succ by rw [← List.range_succ_eq_map], List.any_cons, e0, Bool.false_or, List.any_map]
        rfl
      rw [e]
      unfold mayB
      cases hb : (List.range 33).any (badP b) with
      | true => rfl
      | false => rfl
    · rfl
    · have hc := c_le b (i + 1)
      have J4 : ∀ x y, gameroomref_DraughtsMay_J4 ((i + 1 : Nat) : Int) x y = some (.next (x, y, ((i + 1 + 1 : Nat) : Int))) := fun x y => by
        unfold gameroomref_DraughtsMay_J4
        rw [w64_of (by omega)]
        rfl
      unfold gameroomref_DraughtsMay_L1 gameroomref_DraughtsMay_J3 gameroomref_within_m
      dsimp only
      rw [if_pos (by rw [decide_eq_true_eq]; omega), asrt_pos (by omega), Option.bind_some]
      have eb : (((!((decide ((-2 : Int) ≤ geti b ((i + 1 : Nat) : Int))) && (decide (geti b ((i + 1 : Nat) : Int) ≤ 2)))) || ((geti b ((i + 1 : Nat) : Int) == 1) && (decide (((i + 1 : Nat) : Int) ≤ 4)))) || ((geti b ((i + 1 : Nat) : Int) == (-1)) && (decide ((29 : Int) ≤ ((i + 1 : Nat) : Int))))) = badP b (i + 1) := by
        unfold badP
        congr 2
        rw [Bool.eq_iff_iff]
        simp <;> omega
      rw [eb]
      by_cases hb : badP b (i + 1) = true
      · rw [if_pos hb, if_pos hb]
      · rw [if_neg hb, if_neg hb, c1_succ b (i + 1), c2_succ b (i + 1)]
        unfold gameroomref_DraughtsMay_J5 gameroomref_DraughtsMay_J6
        by_cases hp : 0 < geti b ((i + 1 : Nat) : Int)
        · rw [if_pos (by simpa using hp), if_neg (by rw [decide_eq_true_eq]; omega), J4, if_pos hp, if_neg (by omega), Int.add_zero, w64_of (by omega)]
        · rw [if_neg (by simpa using hp), if_neg hp, Int.add_zero]
          by_cases hn : geti b ((i + 1 : Nat) : Int) < 0
          · rw [if_pos (by simpa using hn), J4, if_pos hn, w64_of (by omega)]
          · rw [if_neg (by simpa using hn), J4, if_neg hn, Int.add_zero]
  · rw [if_neg hf]
    by_cases hl : b.length = 33
    · by_cases h0 : geti b 0 = 0
      · rw [asrt_pos (fun _ => by omega), if_pos (by rw [hl, h0]; decide), Option.bind_some, if_pos]
        have : ¬ (tn = 1 ∨ tn = 2) := fun e => hf ⟨hl, h0, e⟩
        simp
        omega
      · rw [asrt_pos (fun _ => by omega), if_neg (by simp [h0]), Option.bind_some, if_pos (by simp)]
    · rw [asrt_pos (fun e => by simp at e; omega), if_neg (by simp; omega), Option.bind_some, if_pos (by simp)]

/-- A board that may be is one. -/
theorem may_brd {b : List Int} {tn : Int} (hf : b.length = 33 ∧ geti b 0 = 0 ∧ (tn = 1 ∨ tn = 2)) (hm : mayB b = true) : ∃ s, ((tn = 1 ∧ s = 1) ∨ (tn = 2 ∧ s = -1)) ∧ w64 (3 - w64 (2 * tn)) = s ∧ Brd b s ∧ rem (tof b s) [] < 13 := by
  obtain ⟨hl, h0, ht⟩ := hf
  unfold mayB at hm
  rw [Bool.and_eq_true, Bool.and_eq_true, decide_eq_true_eq, decide_eq_true_eq, Bool.not_eq_true', Bool.eq_false_iff] at hm
  obtain ⟨hb, h1, h2⟩ := hm
  have hv : ∀ q : Nat, q < 33 → -2 ≤ geti b (q : Int) ∧ geti b (q : Int) ≤ 2 := fun q hq => by
    have : badP b q = false := Bool.eq_false_iff.2 fun e => hb (List.any_eq_true.2 ⟨q, List.mem_range.2 hq, e⟩)
    unfold badP at this
    simp only [Bool.or_eq_false_iff, decide_eq_false_iff_not] at this
    omega
  rcases ht with rfl | rfl
  · refine ⟨1, .inl ⟨rfl, rfl⟩, rfl, ⟨hl, h0, hv, .inl rfl⟩, ?_⟩
    unfold c2 at h2
    have e : rem (tof b 1) [] = (List.range 33).countP fun (q : Nat) => decide (geti b (q : Int) < 0) := by
      unfold rem tof
      congr 1
      funext q
      rw [Bool.eq_iff_iff]
      simp
    omega
  · refine ⟨-1, .inr ⟨rfl, rfl⟩, rfl, ⟨hl, h0, hv, .inr rfl⟩, ?_⟩
    unfold c1 at h1
    have e : rem (tof b (-1)) [] = (List.range 33).countP fun (q : Nat) => decide (0 < geti b (q : Int)) := by
      unfold rem tof
      congr 1
      funext q
      rw [Bool.eq_iff_iff]
      simp <;> omega
    omega

def newP (i : Nat) : List Int := (List.range i).foldl (fun b k => (b.set (k + 1) (-1)).set (33 - (k + 1)) 1) (List.replicate 33 0)
def newD (i : Nat) : List Int := (List.range i).map fun p => if 20 < p then 1 else if 1 ≤ p ∧ p ≤ 12 then -1 else 0
theorem newP_len : ∀ i, (newP i).length = 33
  | 0 => rfl
  | i + 1 => by
    unfold newP
    rw [List.range_succ, List.foldl_append]
    have := newP_len i
    unfold newP at this
    rw [List.foldl_cons, List.foldl_nil, List.length_set, List.length_set]
    exact this
theorem new_p : draughts_New_m = some (newP 12, 1) := by
  unfold draughts_New_m
  rw [asrt_pos (by unfold bigN; omega), loop_from (s0 := (List.replicate (Int.toNat 33) (0 : Int), (1 : Int))) (r := newP 12) (fun i => (newP i, ((i + 1 : Nat) : Int))) 12 rfl (fun i hi => ?_) rfl, Option.bind_some]
  · rfl
  · unfold draughts_New_L1 draughts_New_J2 draughts_New_J3
    dsimp only
    have e : w64 (33 - ((i + 1 : Nat) : Int)) = ((33 - (i + 1) : Nat) : Int) := by rw [w64_of (by omega)]; omega
    have e3 : newP (i + 1) = ((newP i).set (i + 1) (-1)).set (33 - (i + 1)) 1 := by
      unfold newP
      rw [List.range_succ, List.foldl_append]
      rfl
    rw [if_pos (by rw [decide_eq_true_eq]; omega), e, asrt_pos (by rw [show Int.toNat 33 = 33 from rfl]; omega), asrt_pos (by rw [show Int.toNat 33 = 33 from rfl]; omega), Int.toNat_natCast, Int.toNat_natCast, w64_of (by omega), e3]
    rfl
theorem new_d : gameroomref_DraughtsNew_m = some (newD 33, 1) := by
  unfold gameroomref_DraughtsNew_m
  rw [loop_from (s0 := (([] : List Int), (0 : Int))) (r := newD 33) (fun i => (newD i, (i : Int))) 33 rfl (fun i hi => ?_) rfl, Option.bind_some]
  · rfl
  · have hlen : (newD i).length = i := by simp [newD]
    have e3 : newD (i + 1) = newD i ++ [if 20 < i then 1 else if 1 ≤ i ∧ i ≤ 12 then -1 else 0] := by
      unfold newD
      rw [List.range_succ, List.map_append]
      rfl
    have J5 : ∀ x, gameroomref_DraughtsNew_J5 (newD i) (i : Int) x = some (.next (newD i ++ [x], ((i + 1 : Nat) : Int))) := fun x => by
      unfold gameroomref_DraughtsNew_J5 gameroomref_DraughtsNew_J3
      rw [asrt_pos (by rw [hlen]; unfold bigN; omega), w64_of (by omega)]
      rfl
    have J4 : ∀ x, gameroomref_DraughtsNew_J4 (newD i) (i : Int) x = some (.next (newD i ++ [if 20 < i then 1 else x], ((i + 1 : Nat) : Int))) := fun x => by
      unfold gameroomref_DraughtsNew_J4
      by_cases h : 20 < i
      · rw [if_pos (by simp; omega), J5, if_pos h]
      · rw [if_neg (by simp; omega), J5, if_neg h]
    unfold gameroomref_DraughtsNew_L1 gameroomref_DraughtsNew_J2 gameroomref_within_m
    dsimp only
    rw [if_pos (by rw [decide_eq_true_eq]; omega), Option.bind_some, e3]
    by_cases h : 1 ≤ i ∧ i ≤ 12
    · rw [if_pos (by simp; omega), J4, if_pos h]
    · rw [if_neg (by simp; omega), J4, if_neg h]
theorem new_eq : newP 12 = newD 33 := by decide +kernel

theorem movesS_rows {b : List Int} {s : Int} : (movesS b s).length ≤ 4611686018427387904 ∧ ∀ x ∈ movesS b s, x.length ≤ 14 := by
  have hj := allOf_len (f := jAt b s dirsP) (jAt_len (fun s pc => (dirs_lt s pc).1)) 32
  have hs := allOf_len (f := sAt b s dirsP) (sAt_len (fun s pc => (dirs_lt s pc).1)) 32
  have hc : ∀ m : List (List Int), (compR (sortK cmpL m)).length ≤ m.length := fun m => by
    have := keptR_len (sortK cmpL m) (sortK cmpL m).length
    unfold compR
    rw [List.length_map]
    rwa [sortK_length] at this ⊢
  unfold movesS
  split
  · refine ⟨Nat.le_trans (hc _) (by omega), fun x hx => ?_⟩
    rw [compR_mem, sortK_mem] at hx
    exact allOf_row sAt_row 32 x hx
  · refine ⟨Nat.le_trans (hc _) (by omega), fun x hx => ?_⟩
    rw [compR_mem, sortK_mem] at hx
    exact allOf_row jAt_row 32 x hx

theorem of_p {b : List Int} (tn : Int) (hl : b.length ≤ 17592186043904) : gameroomref_DraughtsOf_m b tn = some (b, tn) := by
  unfold gameroomref_DraughtsOf_m gameroomref_Ints_m
  rw [asrt_pos (by unfold bigN; omega), List.nil_append, Option.bind_some]
theorem newPlay_p {b : List Int} (tn : Int) (hl : b.length ≤ 1000) : draughts_newPlay_m b tn = some (b, w64 (3 - w64 (2 * tn)), []) := by
  unfold draughts_newPlay_m draughts_newPlay_J1
  rw [clone_p hl, Option.bind_some]

theorem true_DraughtsWays (b : List Int) (tn : Int) (hl : b.length ≤ 17592186043904) (_ib : ∀ y ∈ b, inI y) (_it : inI tn) : gameroomlaw_DraughtsWays_m b tn = some true := by
  have hsn : gameroomref_SameDraughts_m (newP 12) 1 (newD 33) 1 = some true := by
    unfold gameroomref_SameDraughts_m
    rw [if_pos (by decide), ← new_eq, same_r (by rw [newP_len]; omega), Option.bind_some, decide_eq_true rfl]
    rfl
  unfold gameroomlaw_DraughtsWays_m draughts_Moves_m
  rw [of_p tn hl, Option.bind_some, may_p, Option.bind_some, Option.bind_some, may_p, Option.bind_some]
  by_cases hf : b.length = 33 ∧ geti b 0 = 0 ∧ (tn = 1 ∨ tn = 2)
  · rw [if_pos hf]
    cases hm : mayB b with
    | true =>
      obtain ⟨s, hs, hw, hB, h12⟩ := may_brd hf hm
      obtain ⟨m1, m2⟩ := movesS_rows (b := b) (s := s)
      rw [if_neg (by decide)]
      unfold draughts_Moves_J1
      rw [newPlay_p tn (by show b.length ≤ 1000; have := hf.1; omega), Option.bind_some, hw, moves_p hB h12, Option.bind_some, Option.bind_some, new_p, Option.bind_some, new_d, Option.bind_some, hsn, Option.bind_some, if_neg (by decide)]
      unfold gameroomlaw_DraughtsWays_J1
      rw [may_d, if_pos hf, hm, Option.bind_some, if_neg (by decide)]
      unfold gameroomlaw_DraughtsWays_J2
      rw [if_pos (by rfl), moves_d hB hs h12, Option.bind_some, if_pos (by rfl), rows_refl m1 (fun x hx => Nat.le_trans (m2 x hx) (by omega)), Option.bind_some]
      rfl
    | false =>
      rw [if_pos (by decide), Option.bind_some, new_p, Option.bind_some, new_d, Option.bind_some, hsn, Option.bind_some, if_neg (by decide)]
      unfold gameroomlaw_DraughtsWays_J1
      rw [may_d, if_pos hf, hm, Option.bind_some, if_pos (by decide)]
      rfl
  · rw [if_neg hf, if_pos (by decide), Option.bind_some, new_p, Option.bind_some, new_d, Option.bind_some, hsn, Option.bind_some, if_neg (by decide)]
    unfold gameroomlaw_DraughtsWays_J1
    rw [may_d, if_neg hf, Option.bind_some, if_pos (by decide)]
    rfl
end Go.Proofs.Ytoickcchcjehdaa
