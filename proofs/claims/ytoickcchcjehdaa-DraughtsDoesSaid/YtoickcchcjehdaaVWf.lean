/-
  DraughtsWays: boards that may be; the first board; the law.
-/
import Derived.Test.YtoickcchcjehdaaVWe
namespace Go.Proofs.Ytoickcchcjehdaa
open Go Go.GL

def badP (b : List Int) (q : Nat) : Bool := (((decide (geti b (q : Int) < -2)) || (decide ((2 : Int) < geti b (q : Int)))) || ((geti b (q : Int) == 1) && (decide ((q : Int) ≤ 4)))) || ((geti b (q : Int) == (-1)) && (decide ((29 : Int) ≤ (q : Int))))
def c1 (b : List Int) (i : Nat) : Int := (((List.range i).countP fun (q : Nat) => decide (0 < geti b (q : Int)) : Nat) : Int)
def c2 (b : List Int) (i : Nat) : Int := (((List.range i).countP fun (q : Nat) => decide (geti b (q : Int) < 0) : Nat) : Int)
theorem c1_succ (b : List Int) (i : Nat) : c1 b (i + 1) = c1 b i + (if 0 < geti b (i : Int) then 1 else 0) := by
  unfold c1
  rw [List.range_succ, List.countP_append, List.countP_singleton]
  by_cases h : 0 < geti b (i : Int) <;> simp [h]
theorem c2_succ (b : List Int) (i : Nat) : c2 b (i + 1) = c2 b i + (if geti b (i : Int) < 0 then 1 else 0) := by
  unfold c2
  rw [List.range_succ, List.countP_append, List.countP_singleton]
  by_cases h : geti b (i : Int) < 0 <;> simp [h]
theorem c_le (b : List Int) (i : Nat) : 0 ≤ c1 b i ∧ c1 b i ≤ i ∧ 0 ≤ c2 b i ∧ c2 b i ≤ i := by
  have a1 := List.countP_le_length (p := fun q : Nat => decide (0 < geti b (q : Int))) (l := List.range i)
  have a2 := List.countP_le_length (p := fun q : Nat => decide (geti b (q : Int) < 0)) (l := List.range i)
  rw [List.length_range] at a1 a2
  unfold c1 c2
  omega
def mayB (b : List Int) : Bool := !((List.range 33).any (badP b)) && (decide (c1 b 33 ≤ 12) && decide (c2 b 33 ≤ 12))
theorem may_p {b : List Int} {tn : Int} : draughts_May_m b tn = some (if b.length = 33 ∧ geti b 0 = 0 ∧ (tn = 1 ∨ tn = 2) then mayB b else false) := by
  unfold draughts_May_m
  by_cases hf : b.length = 33 ∧ geti b 0 = 0 ∧ (tn = 1 ∨ tn = 2)
  · obtain ⟨hl, h0, ht⟩ := hf
    rw [asrt_pos (fun _ => by omega), if_neg (by rw [h0, hl]; rcases ht with rfl | rfl <;> decide), if_pos ⟨hl, h0, ht⟩]
    unfold draughts_May_J1
    rw [show ((List.replicate 3 (0 : Int)), (0 : Int)) = (([0, c1 b 0, c2 b 0] : List Int), ((0 : Nat) : Int)) from rfl,
      loop_find (f := fun i => (([0, c1 b i, c2 b i] : List Int), (i : Int))) (n := 33) (bad := badP b) (out := (Fl.ret false : Fl (List Int) Bool)) (rd := Fl.go [0, c1 b 33, c2 b 33]) (fun i hi => ?_) ?_, Option.bind_some]
    · unfold mayB
      cases hb : (List.range 33).any (badP b) with
      | true => rfl
      | false =>
        rw [if_neg (by decide)]
        show draughts_May_J2 [0, c1 b 33, c2 b 33] = _
        unfold draughts_May_J2
        rw [asrt_pos (by omega), asrt_pos (fun _ => by omega)]
        rfl
    · unfold draughts_May_L1
      dsimp only
      rw [hl, if_neg (by decide)]
    · have hc := c_le b i
      have J4 : ∀ m, draughts_May_J4 (i : Int) m = some (.next (m, ((i + 1 : Nat) : Int))) := fun m => by
        unfold draughts_May_J4
        rw [w64_of (by omega)]
        rfl
      unfold draughts_May_L1 draughts_May_J3
      dsimp only
      rw [hl, if_pos (by rw [decide_eq_true_eq]; omega), asrt_pos (by omega)]
      show (if badP b i = true then _ else _) = _
      by_cases hb : badP b i = true
      · rw [if_pos hb, if_pos hb]
      · rw [if_neg hb, if_neg hb, c1_succ, c2_succ]
        by_cases hp : 0 < geti b (i : Int)
        · rw [if_pos (by simpa using hp), asrt_pos (by omega), asrt_pos (by omega), asrt_pos (by simp), J4, if_pos hp, if_neg (by omega), Int.add_zero]
          rw [show geti [0, c1 b i, c2 b i] 1 = c1 b i from rfl, w64_of (by omega)]
          rfl
        · rw [if_neg (by simpa using hp), if_neg hp, Int.add_zero]
          by_cases hn : geti b (i : Int) < 0
          · rw [if_pos (by simpa using hn), asrt_pos (by omega), asrt_pos (by omega), asrt_pos (by simp), J4, if_pos hn]
            rw [show geti [0, c1 b i, c2 b i] 2 = c2 b i from rfl, w64_of (by omega)]
            rfl
          · rw [if_neg (by simpa using hn), J4, if_neg hn, Int.add_zero]
  · rw [if_neg hf]
    by_cases hl : b.length = 33
    · rw [asrt_pos (fun _ => by omega), if_pos]
      rw [Bool.or_eq_true, Bool.or_eq_true, bne_iff_ne, bne_iff_ne, Bool.and_eq_true, bne_iff_ne, bne_iff_ne]
      by_cases h0 : geti b 0 = 0
      · refine .inr ⟨fun e => hf ⟨hl, h0, .inl e⟩, fun e => hf ⟨hl, h0, .inr e⟩⟩
      · exact .inl (.inr h0)
    · rw [asrt_pos (fun e => by simp at e; omega), if_pos (by simp; omega)]

theorem may_d {b : List Int} {tn : Int} : gameroomref_DraughtsMay_m b tn = some (if b.length = 33 ∧ geti b 0 = 0 ∧ (tn = 1 ∨ tn = 2) then mayB b else false) := by
  unfold gameroomref_DraughtsMay_m gameroomref_within_m
  by_cases hf : b.length = 33 ∧ geti b 0 = 0 ∧ (tn = 1 ∨ tn = 2)
  · obtain ⟨hl, h0, ht⟩ := hf
    rw [asrt_pos (fun _ => by omega), if_pos (by rw [h0, hl]; decide), Option.bind_some, if_neg (by rw [h0, hl]; rcases ht with rfl | rfl <;> decide), if_pos ⟨hl, h0, ht⟩]
    unfold gameroomref_DraughtsMay_J1
    have z1 : c1 b 1 = 0 := by rw [show (1 : Nat) = 0 + 1 from rfl, c1_succ, show ((0 : Nat) : Int) = 0 from rfl, h0]; rfl
    have z2 : c2 b 1 = 0 := by rw [show (1 : Nat) = 0 + 1 from rfl, c2_succ, show ((0 : Nat) : Int) = 0 from rfl, h0]; rfl
    rw [show ((0 : Int), (0 : Int), (1 : Int)) = (c1 b (0 + 1), c2 b (0 + 1), ((0 + 1 : Nat) : Int)) by rw [Nat.zero_add, z1, z2]; rfl,
      loop_find (f := fun i => (c1 b (i + 1), c2 b (i + 1), ((i + 1 : Nat) : Int))) (n := 32) (bad := fun i => badP b (i + 1)) (out := (Fl.ret false : Fl (Int × Int) Bool)) (rd := Fl.go (c1 b 33, c2 b 33)) (fun i hi => ?_) ?_, Option.bind_some]
    · have e0 : badP b 0 = false := by unfold badP; rw [show ((0 : Nat) : Int) = 0 from rfl, h0]; rfl
      have e : (List.range 32).any (fun i => badP b (i + 1)) = (List.range 33).any (badP b) := by
        rw [show List.range 33 = 0 :: (List.range 32).map Nat.succ by rw [← List.range_succ_eq_map], List.any_cons, e0, Bool.false_or, List.any_map]
        rfl
      rw [e]
      unfold mayB
      cases hb : (List.range 33).any (badP b) with
      | true => rfl
      | false => rfl
    · rfl
    · have hc := c_le b (i + 1)
      have J4 : ∀ x y, gameroomref_DraughtsMay_J4 ((i + 1 : Nat) : Int) x y = some (.next (x, y, ((i + 1 + 1 : Nat) : Int))) := fun x y => by
        unfold gameroomref_DraughtsMay_J4
        rw [w64_of (by omega)]
        rfl
      unfold gameroomref_DraughtsMay_L1 gameroomref_DraughtsMay_J3 gameroomref_within_m
      dsimp only
      rw [if_pos (by rw [decide_eq_true_eq]; omega), asrt_pos (by omega), Option.bind_some]
      have eb : (((!((decide ((-2 : Int) ≤ geti b ((i + 1 : Nat) : Int))) && (decide (geti b ((i + 1 : Nat) : Int) ≤ 2)))) || ((geti b ((i + 1 : Nat) : Int) == 1) && (decide (((i + 1 : Nat) : Int) ≤ 4)))) || ((geti b ((i + 1 : Nat) : Int) == (-1)) && (decide ((29 : Int) ≤ ((i + 1 : Nat) : Int))))) = badP b (i + 1) := by
        unfold badP
        congr 2
        rw [Bool.eq_iff_iff]
        simp <;> omega
      rw [eb]
      by_cases hb : badP b (i + 1) = true
      · rw [if_pos hb, if_pos hb]
      · rw [if_neg hb, if_neg hb, c1_succ b (i + 1), c2_succ b (i + 1)]
        unfold gameroomref_DraughtsMay_J5 gameroomref_DraughtsMay_J6
        by_cases hp : 0 < geti b ((i + 1 : Nat) : Int)
        · rw [if_pos (by simpa using hp), if_neg (by rw [decide_eq_true_eq]; omega), J4, if_pos hp, if_neg (by omega), Int.add_zero, w64_of (by omega)]
        · rw [if_neg (by simpa using hp), if_neg hp, Int.add_zero]
          by_cases hn : geti b ((i + 1 : Nat) : Int) < 0
          · rw [if_pos (by simpa using hn), J4, if_pos hn, w64_of (by omega)]
          · rw [if_neg (by simpa using hn), J4, if_neg hn, Int.add_zero]
  · rw [if_neg hf]
    by_cases hl : b.length = 33
    · by_cases h0 : geti b 0 = 0
      · rw [asrt_pos (fun _ => by omega), if_pos (by rw [hl, h0]; decide), Option.bind_some, if_pos]
        have : ¬ (tn = 1 ∨ tn = 2) := fun e => hf ⟨hl, h0, e⟩
        simp
        omega
      · rw [asrt_pos (fun _ => by omega), if_neg (by simp [h0]), Option.bind_some, if_pos (by simp)]
    · rw [asrt_pos (fun e => by simp at e; omega), if_neg (by simp; omega), Option.bind_some, if_pos (by simp)]

/-- A board that may be is one. -/
theorem may_brd {b : List Int} {tn : Int} (hf : b.length = 33 ∧ geti b 0 = 0 ∧ (tn = 1 ∨ tn = 2)) (hm : mayB b = true) : ∃ s, ((tn = 1 ∧ s = 1) ∨ (tn = 2 ∧ s = -1)) ∧ w64 (3 - w64 (2 * tn)) = s ∧ Brd b s ∧ rem (tof b s) [] < 13 := by
  obtain ⟨hl, h0, ht⟩ := hf
  unfold mayB at hm
  rw [Bool.and_eq_true, Bool.and_eq_true, decide_eq_true_eq, decide_eq_true_eq, Bool.not_eq_true', Bool.eq_false_iff] at hm
  obtain ⟨hb, h1, h2⟩ := hm
  have hv : ∀ q : Nat, q < 33 → -2 ≤ geti b (q : Int) ∧ geti b (q : Int) ≤ 2 := fun q hq => by
    have : badP b q = false := Bool.eq_false_iff.2 fun e => hb (List.any_eq_true.2 ⟨q, List.mem_range.2 hq, e⟩)
    unfold badP at this
    simp only [Bool.or_eq_false_iff, decide_eq_false_iff_not] at this
    omega
  rcases ht with rfl | rfl
  · refine ⟨1, .inl ⟨rfl, rfl⟩, rfl, ⟨hl, h0, hv, .inl rfl⟩, ?_⟩
    unfold c2 at h2
    have e : rem (tof b 1) [] = (List.range 33).countP fun (q : Nat) => decide (geti b (q : Int) < 0) := by
      unfold rem tof
      congr 1
      funext q
      rw [Bool.eq_iff_iff]
      simp
    omega
  · refine ⟨-1, .inr ⟨rfl, rfl⟩, rfl, ⟨hl, h0, hv, .inr rfl⟩, ?_⟩
    unfold c1 at h1
    have e : rem (tof b (-1)) [] = (List.range 33).countP fun (q : Nat) => decide (0 < geti b (q : Int)) := by
      unfold rem tof
      congr 1
      funext q
      rw [Bool.eq_iff_iff]
      simp <;> omega
    omega

theorem movesS_rows {b : List Int} {s : Int} : (movesS b s).length ≤ 4611686018427387904 ∧ ∀ x ∈ movesS b s, x.length ≤ 14 := by
  have hj := allOf_len (f := jAt b s dirsP) (jAt_len (fun s pc => (dirs_lt s pc).1)) 32
  have hs := allOf_len (f := sAt b s dirsP) (sAt_len (fun s pc => (dirs_lt s pc).1)) 32
  have hc : ∀ m : List (List Int), (compR (sortK cmpL m)).length ≤ m.length := fun m => by
    have := keptR_len (sortK cmpL m) (sortK cmpL m).length
    unfold compR
    rw [List.length_map]
    rwa [sortK_length] at this ⊢
  unfold movesS
  split
  · refine ⟨Nat.le_trans (hc _) (by omega), fun x hx => ?_⟩
    rw [compR_mem, sortK_mem] at hx
    exact allOf_row sAt_row 32 x hx
  · refine ⟨Nat.le_trans (hc _) (by omega), fun x hx => ?_⟩
    rw [compR_mem, sortK_mem] at hx
    exact allOf_row jAt_row 32 x hx

theorem of_p {b : List Int} (tn : Int) (hl : b.length ≤ 17592186043904) : gameroomref_DraughtsOf_m b tn = some (b, tn) := by
  unfold gameroomref_DraughtsOf_m gameroomref_Ints_m
  rw [asrt_pos (by unfold bigN; omega), List.nil_append, Option.bind_some]
theorem newPlay_p {b : List Int} (tn : Int) (hl : b.length ≤ 1000) : draughts_newPlay_m b tn = some (b, w64 (3 - w64 (2 * tn)), []) := by
  unfold draughts_newPlay_m draughts_newPlay_J1
  rw [clone_p hl, Option.bind_some]

end Go.Proofs.Ytoickcchcjehdaa
