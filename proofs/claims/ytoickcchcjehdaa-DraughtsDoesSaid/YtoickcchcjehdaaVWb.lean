/-
  DraughtsWays: the program's jumps.
-/
import Derived.Test.YtoickcchcjehdaaVWa
namespace Go.Proofs.Ytoickcchcjehdaa
open Go Go.GL

/-- A board that may be, and the side that moves. -/
structure Brd (b : List Int) (s : Int) : Prop where
  len : b.length = 33
  zero : geti b 0 = 0
  val : ∀ q : Nat, q < 33 → -2 ≤ geti b (q : Int) ∧ geti b (q : Int) ≤ 2
  sgn : s = 1 ∨ s = -1
def tof (b : List Int) (s : Int) (q : Nat) : Int := s * geti b (q : Int)
theorem tof_le {b : List Int} {s : Int} (h : Brd b s) {q : Nat} (hq : q < 33) : -2 ≤ tof b s q ∧ tof b s q ≤ 2 := by
  have := h.val q hq
  unfold tof
  rcases h.sgn with rfl | rfl <;> omega
theorem at_p {b : List Int} {s : Int} (h : Brd b s) (o : List (List Int)) {q : Nat} (hq : q < 33) : draughts_play_at_m b s o (q : Int) = some (tof b s q) := by
  have h1 := tof_le h hq
  unfold draughts_play_at_m
  rw [asrt_pos (by rw [h.len]; omega)]
  congr 1
  exact w64_of (by unfold tof at h1; omega)

theorem index_p {l : List Int} (hl : l.length ≤ 4611686018427387904) (v : Int) : slices_Contains_m l v = some (l.contains v) := by
  have key : ∀ m i, i + m = l.length → ∃ r, (loop (slices_Index_L1 l v) (i : Int)).bind slices_Index_K1 = some r ∧ (0 ≤ r ↔ (l.drop i).contains v = true) := by
    intro m
    induction m with
    | zero =>
      intro i hi
      obtain rfl : i = l.length := by omega
      rw [loop_done (r := (Fl.go () : Fl Unit Int)) (by
        unfold slices_Index_L1
        dsimp only
        rw [if_neg (by simp)]), List.drop_length]
      exact ⟨-1, rfl, by simp⟩
    | succ m ih =>
      intro i hi
      have hs : slices_Index_L1 l v (i : Int) = if v == geti l (i : Int) then some (.done (.ret (i : Int))) else some (.next ((i + 1 : Nat) : Int)) := by
        unfold slices_Index_L1 slices_Index_J2 slices_Index_J3
        dsimp only
        rw [if_pos (by rw [decide_eq_true_eq]; omega), asrt_pos (by omega), w64_of (x := (i : Int) + 1) (by omega)]
        rfl
      have hd : l.drop i = geti l (i : Int) :: l.drop (i + 1) := by
        rw [List.drop_eq_getElem_cons (by omega), geti_bang (by omega), getElem!_pos l i (by omega)]
      rw [hd, List.contains_cons]
      by_cases hb : (v == geti l (i : Int)) = true
      · rw [if_pos hb] at hs
        rw [loop_done hs, hb]
        exact ⟨i, rfl, by simp⟩
      · rw [if_neg hb] at hs
        obtain ⟨r, h1, h2⟩ := ih (i + 1) (by omega)
        refine ⟨r, ?_, by rw [h2, Bool.eq_false_iff.2 hb, Bool.false_or]⟩
        rw [← h1]
        congr 1
        refine loop_next hs rfl ?_
        cases hq : loop (slices_Index_L1 l v) ((i + 1 : Nat) : Int) with
        | some x => rfl
        | none => rw [hq] at h1; exact absurd h1 (by simp)
  obtain ⟨r, h1, h2⟩ := key l.length 0 (by omega)
  unfold slices_Contains_m slices_Index_m
  rw [show (0 : Int) = ((0 : Nat) : Int) from rfl, h1, Option.bind_some]
  congr 1
  rw [Bool.eq_iff_iff, decide_eq_true_eq]
  exact h2

def dirsP (s pc : Int) : List Nat := if pc = 2 then [0, 1, 2, 3] else if 0 < s then [0, 1] else [2, 3]
def crownP (s pc : Int) (q : Nat) : Bool := decide (pc = 1) && (if 0 < s then decide (q ≤ 4) else decide (29 ≤ q))
theorem dirs_p (b : List Int) (s : Int) (o : List (List Int)) (pc : Int) : draughts_play_dirs_m b s o pc = some ((dirsP s pc).map fun (d : Nat) => (d : Int)) := by
  unfold draughts_play_dirs_m draughts_play_dirs_J1 dirsP
  by_cases h : pc = 2
  · rw [if_pos (by simpa using h), if_pos h]; rfl
  · rw [if_neg (by simpa using h), if_neg h]
    by_cases h2 : 0 < s
    · rw [if_pos (by simpa using h2), if_pos h2]; rfl
    · rw [if_neg (by simpa using h2), if_neg h2]; rfl
theorem last_p (b : List Int) (s : Int) (o : List (List Int)) (q : Nat) : draughts_play_last_m b s o (q : Int) = some (if 0 < s then decide (q ≤ 4) else decide (29 ≤ q)) := by
  unfold draughts_play_last_m draughts_play_last_J1
  by_cases h2 : 0 < s
  · rw [if_pos (by simpa using h2), if_pos h2]
    congr 1
    rw [Bool.eq_iff_iff, decide_eq_true_eq, decide_eq_true_eq]; omega
  · rw [if_neg (by simpa using h2), if_neg h2]
    congr 1
    rw [Bool.eq_iff_iff, decide_eq_true_eq, decide_eq_true_eq]; omega
theorem dirs_lt (s pc : Int) : (dirsP s pc).length ≤ 4 ∧ ∀ d ∈ dirsP s pc, d < 4 := by
  unfold dirsP
  split
  · exact ⟨by decide, by decide⟩
  · split
    · exact ⟨by decide, by decide⟩
    · exact ⟨by decide, by decide⟩
theorem clone_p {l : List Int} (h : l.length ≤ 1000) : slices_Clone_m l = some l := by
  unfold slices_Clone_m slices_Clone_J1
  rw [asrt_pos (by unfold bigN; omega), List.nil_append]

/-- What the program adds. -/
def PS (t : Nat → Int) (crown : Nat → Bool) (ds : List Nat) (st n p : Nat) (way over : List Int) : List (List Int) :=
  if (JS t crown ds st n p way over).isEmpty then (if 1 < way.length then [way] else []) else JS t crown ds st n p way over

section
variable {b : List Int} {s : Int} (h : Brd b s) (pc : Int)
include h
theorem jumps_p {st : Nat} : ∀ (n p : Nat) (way over : List Int) (out : List (List Int)), 1 ≤ p → p < 33 → rem (tof b s) over < n → 0 < way.length → way.length + n ≤ 900 → over.length + n ≤ 900 →
    geti way ((way.length - 1 : Nat) : Int) = (p : Int) → geti way 0 = (st : Int) → out.length + 4 ^ n ≤ 100000000000 →
    draughts_play_jumps_2_mF n b s out way pc over = some (out ++ PS (tof b s) (crownP s pc) (dirsP s pc) st n p way over)
  | 0, _, _, _, _, _, _, hr, _, _, _, _, _, _ => absurd hr (Nat.not_lt_zero _)
  | n + 1, p, way, over, out, hp1, hp2, hr, hw0, hw, ho, hl, hst, hb => by
    have IH := jumps_p (st := st) n
    obtain ⟨hd4, hdl⟩ := dirs_lt s pc
    have hpw : 4 ^ (n + 1) = 4 * 4 ^ n := by rw [Nat.pow_succ, Nat.mul_comm]
    have h41 : 1 ≤ 4 ^ n := Nat.one_le_pow _ _ (by omega)
    rw [hpw] at hb
    have elast : w64 ((way.length : Int) - 1) = ((way.length - 1 : Nat) : Int) := by rw [w64_of (by omega)]; omega
    show draughts_play_jumps_2_B (draughts_play_jumps_2_mF n) b s out way pc over = _
    unfold draughts_play_jumps_2_B
    rw [elast, asrt_pos (by omega), dirs_p, Option.bind_some]
    generalize hG : GJ (tof b s) (crownP s pc) (dirsP s pc) st n p way over = G
    have hGl : ∀ d, (G d).length ≤ 4 ^ n := fun d => by rw [← hG]; exact GJ_len hd4
    have flen : ∀ l : List Nat, (l.flatMap G).length ≤ l.length * 4 ^ n := by
      intro l
      induction l with
      | nil => simp
      | cons d l ih =>
        rw [List.flatMap_cons, List.length_append, List.length_cons, Nat.add_mul, Nat.one_mul]
        have := hGl d
        omega
    rw [loop_from (s0 := (out, false, (0 : Int))) (r := (out ++ (dirsP s pc).flatMap G, (dirsP s pc).any fun d => okJ (tof b s) st over p d)) (fun i => (out ++ ((dirsP s pc).take i).flatMap G, ((dirsP s pc).take i).any (fun d => okJ (tof b s) st over p d), (i : Int))) (dirsP s pc).length ?_ (fun i hi => ?_) ?_, Option.bind_some]
    · -- the end
      unfold draughts_play_jumps_2_K1 draughts_play_jumps_2_J2 draughts_play_jumps_2_J1
      dsimp only
      have hJ : JS (tof b s) (crownP s pc) (dirsP s pc) st (n + 1) p way over = (dirsP s pc).flatMap G := by rw [JS_succ, hG]
      have hany : ((dirsP s pc).any fun d => okJ (tof b s) st over p d) = !((dirsP s pc).flatMap G).isEmpty := by
        rw [Bool.eq_iff_iff, List.any_eq_true]
        constructor
        · rintro ⟨d, hd, hk⟩
          have : G d ≠ [] := fun e => by
            rw [← hG] at e
            rw [GJ_ne.1 e] at hk
            cases hk
          have hne : (dirsP s pc).flatMap G ≠ [] := fun e => this (List.flatMap_eq_nil_iff.1 e d hd)
          cases hq : (dirsP s pc).flatMap G with
          | nil => exact absurd hq hne
          | cons _ _ => rfl
        · intro hq
          refine Decidable.byContradiction fun hc => ?_
          have : (dirsP s pc).flatMap G = [] := List.flatMap_eq_nil_iff.2 fun d hd => by
            rw [← hG, GJ_ne]
            exact Bool.eq_false_iff.2 fun hk => hc ⟨d, hd, hk⟩
          rw [this] at hq
          cases hq
      unfold PS
      rw [hJ, hany, Bool.not_not]
      have fl := flen (dirsP s pc)
      have fl2 : (dirsP s pc).length * 4 ^ n ≤ 4 * 4 ^ n := Nat.mul_le_mul_right _ hd4
      cases he : ((dirsP s pc).flatMap G).isEmpty with
      | true =>
        have e0 : (dirsP s pc).flatMap G = [] := List.isEmpty_iff.1 he
        rw [e0, List.append_nil, if_pos rfl]
        by_cases hw1 : 1 < way.length
        · rw [if_pos (by simp; omega), asrt_pos (by unfold bigR; omega), if_pos hw1]
        · rw [if_neg (by simp; omega), if_neg hw1, List.append_nil]
      | false =>
        rw [if_neg (by simp), if_neg (by simp)]
    · show (out ++ ([] : List Nat).flatMap G, ([] : List Nat).any _, ((0 : Nat) : Int)) = _
      rw [List.flatMap_nil, List.append_nil]
      rfl
    · unfold draughts_play_jumps_2_L1
      dsimp only
      rw [List.length_map, if_neg (by simp), List.take_length]
    · -- one direction
      have hdi : (dirsP s pc)[i] < 4 := hdl _ (List.getElem_mem hi)
      have htk : (dirsP s pc).take (i + 1) = (dirsP s pc).take i ++ [(dirsP s pc)[i]] := by rw [List.take_add_one, List.getElem?_eq_getElem hi]; rfl
      have hgd : geti ((dirsP s pc).map fun (d : Nat) => (d : Int)) (i : Int) = (((dirsP s pc)[i] : Nat) : Int) := by
        rw [geti_bang (by simpa using hi), getElem!_pos _ i (by simpa using hi), List.getElem_map]
      have hol : (out ++ ((dirsP s pc).take i).flatMap G).length + 4 ^ n ≤ out.length + 4 * 4 ^ n := by
        have f1 := flen ((dirsP s pc).take i)
        have f2 : ((dirsP s pc).take i).length * 4 ^ n ≤ 3 * 4 ^ n := Nat.mul_le_mul_right _ (by rw [List.length_take]; omega)
        rw [List.length_append]
        omega
      unfold draughts_play_jumps_2_L1 draughts_play_jumps_2_J3
      dsimp only
      rw [if_pos (by rw [decide_eq_true_eq, List.length_map]; omega), asrt_pos (by rw [List.length_map]; omega), elast, hl, hgd]
      rw [htk, List.flatMap_append, List.flatMap_singleton, ← List.append_assoc, List.any_append]
      generalize (dirsP s pc)[i] = d at hdi hgd ⊢
      generalize out ++ ((dirsP s pc).take i).flatMap G = cur at hol ⊢
      generalize ((dirsP s pc).take i).any (fun d => okJ (tof b s) st over p d) = on
      obtain ⟨m1, m2⟩ := nx_m p hp2 d hdi hp1
      have hGd : G d = GJ (tof b s) (crownP s pc) (dirsP s pc) st n p way over d := by rw [hG]
      have e1 : [d].any (fun d => okJ (tof b s) st over p d) = okJ (tof b s) st over p d := by simp
      rw [m1, Option.bind_some, e1, hGd]
      have J4 : ∀ q o, draughts_play_jumps_2_J4 (i : Int) q o = some (.next (q, o, ((i + 1 : Nat) : Int))) := fun q o => by
        unfold draughts_play_jumps_2_J4
        rw [w64_of (by omega)]
        rfl
      unfold GJ
      by_cases z1 : nx p d = 0
      · have hk : okJ (tof b s) st over p d = false := by unfold okJ; rw [z1]; rfl
        rw [hk, z1, if_neg (by decide), Option.bind_some, if_neg (by simp), Option.bind_some, if_pos (by simp), J4, if_neg (by decide), List.append_nil, Bool.or_false]
      · have hm1 : 1 ≤ nx p d := by omega
        rw [if_pos (by simp; omega), at_p h _ m2, Option.bind_some]
        by_cases z2 : tof b s (nx p d) < 0
        · rw [if_pos (by simp; omega), index_p (by omega), Option.bind_some]
          by_cases z3 : over.contains ((nx p d : Nat) : Int) = true
          · have hk : okJ (tof b s) st over p d = false := by unfold okJ; rw [z3]; simp
            rw [if_pos (by rw [z3, Bool.or_true]), hk, J4, if_neg (by decide), List.append_nil, Bool.or_false]
          · have z3 := Bool.eq_false_iff.2 z3
            rw [z3, if_neg (by simp; omega)]
            obtain ⟨k1, k2⟩ := nx_m (nx p d) m2 d hdi hm1
            unfold draughts_play_jumps_2_J5
            rw [hgd, k1, Option.bind_some]
            by_cases z4 : nx (nx p d) d = 0
            · have hk : okJ (tof b s) st over p d = false := by unfold okJ; rw [z4]; simp
              rw [z4, if_neg (by decide), Option.bind_some, asrt_pos (fun _ _ => by omega), if_pos (by simp), hk, J4, if_neg (by decide), List.append_nil, Bool.or_false]
            · rw [if_pos (by simp; omega), at_p h _ k2, Option.bind_some, asrt_pos (fun _ _ => by omega), hst]
              by_cases z5 : (tof b s (nx (nx p d) d) == 0 || nx (nx p d) d == st) = true
              · have hk : okJ (tof b s) st over p d = true := by
                  unfold okJ
                  rw [z5, z3]
                  simp [z1, z2, z4]
                rw [if_neg (by simp at z5 ⊢; omega), hk, if_pos rfl]
                unfold draughts_play_jumps_2_J6
                rw [clone_p (by omega), Option.bind_some, asrt_pos (by unfold bigN; omega)]
                generalize nx (nx p d) d = to at *
                generalize nx p d = mid at *
                have hlen : (way ++ [((to : Nat) : Int)]).length = way.length + 1 := by simp
                have hcr : (if pc == 1 then draughts_play_last_m b s cur ((to : Nat) : Int) else some false) = some (crownP s pc to) := by
                  unfold crownP
                  by_cases h1 : pc = 1
                  · rw [if_pos (by simpa using h1), last_p]; simp [h1]
                  · rw [if_neg (by simpa using h1)]; simp [h1]
                rw [hcr, Option.bind_some]
                have hcr2 : (pc == 1 && crownP s pc to) = crownP s pc to := by
                  unfold crownP
                  by_cases h1 : pc = 1 <;> simp [h1]
                rw [hcr2]
                cases hc : crownP s pc to with
                | true =>
                  rw [if_pos rfl, if_pos rfl, asrt_pos (by unfold bigR; omega), J4]
                  simp
                | false =>
                  rw [if_neg (by decide), if_neg (by decide)]
                  unfold draughts_play_jumps_2_J7
                  have hrl := rem_lt (t := tof b s) m2 z2 z3
                  rw [clone_p (by omega), Option.bind_some, asrt_pos (by unfold bigN; omega)]
                  rw [IH to (way ++ [((to : Nat) : Int)]) (over ++ [((mid : Nat) : Int)]) cur (by omega) k2 (by omega) (by omega) (by omega) (by simp; omega) ?_ ?_ (by omega), Option.bind_some, J4]
                  · have hP : PS (tof b s) (crownP s pc) (dirsP s pc) st n to (way ++ [((to : Nat) : Int)]) (over ++ [((mid : Nat) : Int)]) = if (JS (tof b s) (crownP s pc) (dirsP s pc) st n to (way ++ [((to : Nat) : Int)]) (over ++ [((mid : Nat) : Int)])).isEmpty then [way ++ [((to : Nat) : Int)]] else JS (tof b s) (crownP s pc) (dirsP s pc) st n to (way ++ [((to : Nat) : Int)]) (over ++ [((mid : Nat) : Int)]) := by
                      unfold PS
                      rw [if_pos (show 1 < (way ++ [((to : Nat) : Int)]).length by omega)]
                    rw [hP, Bool.or_true]
                  · rw [hlen, geti_bang (by omega), getElem!_pos _ _ (by omega), List.getElem_append_right (by omega)]
                    simp
                  · rw [← hst, show (0 : Int) = ((0 : Nat) : Int) from rfl, geti_bang (by omega), geti_bang (by omega), getElem!_pos _ _ (by omega), getElem!_pos _ _ (by omega), List.getElem_append_left (by omega)]
              · have hk : okJ (tof b s) st over p d = false := by unfold okJ; rw [Bool.eq_false_iff.2 z5]; simp
                rw [if_pos (by simp at z5 ⊢; omega), hk, J4, if_neg (by decide), List.append_nil, Bool.or_false]
        · have hk : okJ (tof b s) st over p d = false := by unfold okJ; simp [z2]
          rw [if_neg (by simp; omega), Option.bind_some, if_pos (by simp; omega), hk, J4, if_neg (by decide), List.append_nil, Bool.or_false]
end
end Go.Proofs.Ytoickcchcjehdaa
