/-
  DraughtsWays: the document's moves.
-/
import Derived.Test.YtoickcchcjehdaaVWd
namespace Go.Proofs.Ytoickcchcjehdaa
open Go Go.GL

theorem insAll_len : ∀ (ws l : List (List Int)), (insAll ws l).length ≤ ws.length + l.length
  | [], l => by simp [insAll]
  | w :: ws, l => by
    have := insAll_len ws (insW w l)
    have h2 := insW_len (w := w) (l := l)
    show (insAll ws (insW w l)).length ≤ _
    simp only [List.length_cons]
    omega
theorem insAll_app (a c l : List (List Int)) : insAll (a ++ c) l = insAll c (insAll a l) := by
  unfold insAll
  rw [List.foldl_append]
theorem insAll_row {c : Nat} {ws l : List (List Int)} (h1 : ∀ x ∈ ws, x.length ≤ c) (h2 : ∀ x ∈ l, x.length ≤ c) : ∀ x ∈ insAll ws l, x.length ≤ c := fun x hx => by
  rcases insAll_mem.1 hx with h | h
  · exact h1 x h
  · exact h2 x h

theorem put_loop {l2 jumps : List (List Int)} (hl : jumps.length + l2.length ≤ 100000000000) (h1 : ∀ x ∈ l2, x.length ≤ 14) (h2 : ∀ x ∈ jumps, x.length ≤ 14) : loop gameroomref_DraughtsMoves_L2 (jumps, l2, 0) = some (insAll l2 jumps) := by
  rw [loop_from (s0 := (jumps, l2, (0 : Int))) (r := insAll l2 jumps) (fun i => (insAll (l2.take i) jumps, l2, (i : Int))) l2.length rfl (fun i hi => ?_) ?_]
  · unfold gameroomref_DraughtsMoves_L2
    dsimp only
    rw [if_neg (by simp), List.take_length]
  · have hg : geti2 l2 (i : Int) = l2[i] := by
      unfold geti2
      rw [Int.toNat_natCast, List.getD_eq_getElem?_getD, List.getElem?_eq_getElem hi]
      rfl
    have htk : l2.take (i + 1) = l2.take i ++ [l2[i]] := by rw [List.take_add_one, List.getElem?_eq_getElem hi]; rfl
    have hlen := insAll_len (l2.take i) jumps
    rw [List.length_take] at hlen
    have hrow := insAll_row (ws := l2.take i) (l := jumps) (fun x hx => h1 x (List.mem_of_mem_take hx)) h2
    unfold gameroomref_DraughtsMoves_L2 gameroomref_DraughtsMoves_J7 gameroomref_DraughtsMoves_J8
    dsimp only
    rw [if_pos (by rw [decide_eq_true_eq]; omega), asrt_pos (by omega), hg, put_p (by omega) (fun x hx => Nat.le_trans (hrow x hx) (by omega)), Option.bind_some, w64_of (x := (i : Int) + 1) (by omega), htk, insAll_app]
    rfl

section
variable {b : List Int} {s tn : Int} (h : Brd b s) (htn : (tn = 1 ∧ s = 1) ∨ (tn = 2 ∧ s = -1)) (h12 : rem (tof b s) [] < 13)
include h htn
theorem piece_x {p : Nat} (_hp : p < 33) : geti b (p : Int) = s * tof b s p := by
  unfold tof
  rcases htn with ⟨_, rfl⟩ | ⟨_, rfl⟩ <;> omega
theorem steps_d {p : Nat} (hp1 : 1 ≤ p) (hp2 : p < 33) (jumps steps : List (List Int)) (hs : steps.length ≤ 1000) (hrw : ∀ x ∈ steps, x.length ≤ 14) (hx : 0 < tof b s p) :
    loop (gameroomref_DraughtsMoves_L3 b (p : Int)) (jumps, steps, -1) = some (jumps, insAll (sAt b s dirsD p) steps) := by
  have hpc : tof b s p = 1 ∨ tof b s p = 2 := by have := tof_le h hp2; omega
  obtain ⟨x1, y1⟩ := dXY_m p hp2 hp1
  generalize hG : (fun d => if (dirsP s (tof b s p)).contains d then (if nx p d != 0 && tof b s (nx p d) == 0 then [[(p : Int), ((nx p d : Nat) : Int)]] else []) else []) = G
  have hGl : ∀ d, (G d).length ≤ 1 := fun d => by rw [← hG]; dsimp only; split <;> (try split) <;> simp
  have hGr : ∀ d, ∀ x ∈ G d, x.length ≤ 14 := fun d x hx => by
    rw [← hG] at hx
    dsimp only at hx
    split at hx
    · split at hx
      · rw [List.mem_singleton] at hx
        rw [hx]; simp
      · cases hx
    · cases hx
  have step : ∀ (d : Nat) (st : List (List Int)), d < 4 → st.length ≤ 1010 → (∀ x ∈ st, x.length ≤ 14) → gameroomref_DraughtsMoves_J11 b (p : Int) (xo d) jumps st (yo d) = some (.next (jumps, insAll (G d) st, yo d + 2)) := by
    intro d st hd hl hr
    obtain ⟨a1, _, _⟩ := dA_m p hp2 d hd hp1
    obtain ⟨m1, m2⟩ := nx_m p hp2 d hd hp1
    have hyo : w64 (yo d + 2) = yo d + 2 := by
      have : yo d = -1 ∨ yo d = 1 := by unfold yo; split <;> simp
      rcases this with e | e <;> rw [e] <;> rfl
    have J12 : ∀ o, gameroomref_DraughtsMoves_J12 jumps (yo d) o = some (.next (jumps, o, yo d + 2)) := fun o => by
      unfold gameroomref_DraughtsMoves_J12
      rw [hyo]
    unfold gameroomref_DraughtsMoves_J11
    rw [x1, Option.bind_some, y1, Option.bind_some, a1, Option.bind_some, asrt_pos (fun _ => by rw [h.len]; omega), asrt_pos (fun _ => by rw [h.len]; omega), piece_x h htn hp2, forward_p h.sgn hpc d hd, ← hG]
    dsimp only
    have hz : (geti b ((nx p d : Nat) : Int) == 0) = (tof b s (nx p d) == 0) := by
      rw [piece_x h htn m2]
      rw [Bool.eq_iff_iff, beq_iff_eq, beq_iff_eq]
      rcases h.sgn with e | e <;> rw [e] <;> omega
    have hn : decide ((0 : Int) < ((nx p d : Nat) : Int)) = (nx p d != 0) := by
      rw [Bool.eq_iff_iff, decide_eq_true_eq, bne_iff_ne]; omega
    rw [hz, hn]
    cases hc : (nx p d != 0 && tof b s (nx p d) == 0) with
    | false =>
      rw [if_neg (by decide), Option.bind_some, Bool.false_and, if_neg (by decide), J12]
      cases (dirsP s (tof b s p)).contains d <;> rfl
    | true =>
      rw [if_pos rfl, Option.bind_some, Bool.true_and]
      cases (dirsP s (tof b s p)).contains d with
      | false => rw [if_neg (by decide), J12]; rfl
      | true =>
        rw [if_pos rfl, put_p (by omega) (fun x hx => Nat.le_trans (hr x hx) (by omega)), Option.bind_some, J12]
        rfl
  have col : ∀ (d : Nat) (st : List (List Int)), d < 2 → st.length ≤ 1005 → (∀ x ∈ st, x.length ≤ 14) → loop (gameroomref_DraughtsMoves_L4 b (p : Int) (xo d)) (jumps, st, -1) = some (jumps, insAll (G (d + 2)) (insAll (G d) st)) := fun d st hd hl hr => by
    have l1 := insAll_len (G d) st
    have l2 := hGl d
    have q1 := step d st (by omega) (by omega) hr
    have q2 := step (d + 2) (insAll (G d) st) (by omega) (by omega) (insAll_row (hGr d) hr)
    have x2 : xo (d + 2) = xo d := by unfold xo; rw [Nat.add_mod_right]
    have yd : yo d = -1 := by unfold yo; rw [if_pos (by omega)]
    have yd2 : yo (d + 2) = 1 := by unfold yo; rw [if_neg (by omega)]
    rw [yd] at q1
    rw [yd2, x2] at q2
    refine loop_next (s' := (jumps, insAll (G d) st, 1)) ?_ (loop_next (s' := (jumps, insAll (G (d + 2)) (insAll (G d) st), 3)) ?_ (loop_done ?_) rfl) rfl
    · unfold gameroomref_DraughtsMoves_L4
      dsimp only
      rw [if_pos (by decide), q1]
      rfl
    · unfold gameroomref_DraughtsMoves_L4
      dsimp only
      rw [if_pos (by decide), q2]
      rfl
    · rfl
  have hS : sAt b s dirsD p = ((G 0 ++ G 2) ++ G 1) ++ G 3 := by
    unfold sAt
    rw [if_pos hx]
    conv => lhs; unfold dirsD
    rw [filter_flat, hG]
    simp
  have c0 := col 0 steps (by omega) (by omega) hrw
  have l0 := hGl 0
  have l2 := hGl 2
  have i0 := insAll_len (G 0) steps
  have i2 := insAll_len (G 2) (insAll (G 0) steps)
  have c1 := col 1 (insAll (G (0 + 2)) (insAll (G 0) steps)) (by omega) (by rw [Nat.zero_add]; omega) (insAll_row (hGr _) (insAll_row (hGr _) hrw))
  rw [show xo 0 = -1 from rfl] at c0
  rw [show xo 1 = 1 from rfl] at c1
  rw [hS, insAll_app, insAll_app, insAll_app]
  refine loop_next (s' := (jumps, insAll (G 2) (insAll (G 0) steps), 1)) ?_ (loop_next (s' := (jumps, insAll (G 3) (insAll (G 1) (insAll (G 2) (insAll (G 0) steps))), 3)) ?_ (loop_done ?_) rfl) rfl
  · unfold gameroomref_DraughtsMoves_L3 gameroomref_DraughtsMoves_J9
    dsimp only
    rw [if_pos (by decide), c0, Option.bind_some]
    rfl
  · unfold gameroomref_DraughtsMoves_L3 gameroomref_DraughtsMoves_J9
    dsimp only
    rw [if_pos (by decide), c1, Option.bind_some]
    rfl
  · rfl

include h12
theorem moves_d : gameroomref_DraughtsMoves_m b tn = some (movesS b s) := by
  have hj := allOf_len (f := jAt b s dirsD) (jAt_len dirsD_le)
  have hs := allOf_len (f := sAt b s dirsD) (sAt_len dirsD_le)
  have rj := allOf_row (f := jAt b s dirsD) jAt_row
  have rs := allOf_row (f := sAt b s dirsD) sAt_row
  unfold gameroomref_DraughtsMoves_m
  rw [loop_from (s0 := (([] : List (List Int)), ([] : List (List Int)), (1 : Int))) (r := (insAll (allOf (jAt b s dirsD) 32) [], insAll (allOf (sAt b s dirsD) 32) [])) (fun i => (insAll (allOf (jAt b s dirsD) i) [], insAll (allOf (sAt b s dirsD) i) [], ((i + 1 : Nat) : Int))) 32 rfl (fun i hi => ?_) rfl, Option.bind_some]
  · unfold gameroomref_DraughtsMoves_K1 gameroomref_DraughtsMoves_J1 gameroomref_DraughtsMoves_J13
    dsimp only
    unfold movesS
    have ej : compR (sortK cmpL (allOf (jAt b s dirsP) 32)) = insAll (allOf (jAt b s dirsD) 32) [] := rows_same fun x => allOf_mem jAt_mem 32 x
    have es : compR (sortK cmpL (allOf (sAt b s dirsP) 32)) = insAll (allOf (sAt b s dirsD) 32) [] := rows_same fun x => allOf_mem sAt_mem 32 x
    have ee : (allOf (jAt b s dirsP) 32).isEmpty = (insAll (allOf (jAt b s dirsD) 32) []).isEmpty := by
      rw [← ej]
      exact isEmpty_mem fun x => by rw [compR_mem, sortK_mem]
    rw [ej, es, ee]
    cases hE : insAll (allOf (jAt b s dirsD) 32) [] with
    | nil => rfl
    | cons a r => rw [if_pos (by simp), if_neg (by simp)]
  · have hji := hj i
    have hsi := hs i
    have ij := insAll_len (allOf (jAt b s dirsD) i) []
    have is_ := insAll_len (allOf (sAt b s dirsD) i) []
    have irj := insAll_row (rj i) (l := []) (fun x hx => by cases hx)
    have irs := insAll_row (rs i) (l := []) (fun x hx => by cases hx)
    have hi2 : i + 1 < 33 := by omega
    obtain ⟨ro, o1, _, o3⟩ := owner_p h htn hi2
    have J3 : ∀ q r, gameroomref_DraughtsMoves_J3 ((i + 1 : Nat) : Int) q r = some (.next (q, r, ((i + 1 + 1 : Nat) : Int))) := fun q r => by
      unfold gameroomref_DraughtsMoves_J3
      rw [w64_of (by omega)]
      rfl
    unfold gameroomref_DraughtsMoves_L1 gameroomref_DraughtsMoves_J2
    dsimp only
    rw [if_pos (by rw [decide_eq_true_eq]; omega), asrt_pos (by rw [h.len]; omega), o1, Option.bind_some, o3, allOf_succ, allOf_succ, insAll_app, insAll_app]
    by_cases hx : 0 < tof b s (i + 1)
    · have hpc : tof b s (i + 1) = 1 ∨ tof b s (i + 1) = 2 := by have := tof_le h hi2; omega
      rw [if_neg (by simpa using hx)]
      unfold gameroomref_DraughtsMoves_J4
      have hjd := jumps_d h htn hpc (st := i + 1) 13 (i + 1) [((i + 1 : Nat) : Int)] [] (by omega) hi2 h12 (by simp) (by simp) (by simp) rfl rfl (by omega)
      have ejat : JS (tof b s) (crownP s (tof b s (i + 1))) (dirsD s (tof b s (i + 1))) (i + 1) 13 (i + 1) [((i + 1 : Nat) : Int)] [] = jAt b s dirsD (i + 1) := by
        unfold jAt
        rw [if_pos hx]
      rw [ejat] at hjd
      have hjl := jAt_len (b := b) (s := s) dirsD_le (i + 1)
      rw [asrt_pos (by rw [h.len]; omega), piece_x h htn hi2, gameroomref_jumpsOn_m_of 13 _ _ _ _ _ hjd, Option.bind_some]
      unfold gameroomref_DraughtsMoves_J5
      rw [put_loop (by simp only [List.length_nil] at ij; omega) (jAt_row _) irj, Option.bind_some]
      unfold gameroomref_DraughtsMoves_K2 gameroomref_DraughtsMoves_J6
      dsimp only
      rw [steps_d h htn (by omega) hi2 _ _ (by simp only [List.length_nil] at is_; omega) irs hx, Option.bind_some]
      unfold gameroomref_DraughtsMoves_K3
      dsimp only
      rw [J3]
    · rw [if_pos (by simpa using hx), J3]
      have e1 : jAt b s dirsD (i + 1) = [] := by unfold jAt; rw [if_neg hx]
      have e2 : sAt b s dirsD (i + 1) = [] := by unfold sAt; rw [if_neg hx]
      rw [e1, e2]
      rfl
end
end Go.Proofs.Ytoickcchcjehdaa
