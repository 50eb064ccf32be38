/-
  Rows on a board: the value of a game.
-/
import Derived.Test.YtbmhcapeikebgaaPRc
namespace Go.Proofs.Ytbmhcapeikebgaa
open Go Go.GL

theorem count_loop2 {σ S1 R1 S2 R2 : Type} {step1 : S1 → Option (St S1 R1)} {step2 : S2 → Option (St S2 R2)} (mk1 : σ → Nat → S1) (mk2 : σ → Nat → S2) (I : Nat → σ → Prop) (Post : R1 → R2 → Prop) (n : Nat) (s : σ) (hI : I 0 s)
    (h2 : ∀ i s, i < n → I i s → ∃ s', step1 (mk1 s i) = some (.next (mk1 s' (i + 1))) ∧ step2 (mk2 s i) = some (.next (mk2 s' (i + 1))) ∧ I (i + 1) s')
    (h3 : ∀ s, I n s → ∃ r1 r2, step1 (mk1 s n) = some (.done r1) ∧ step2 (mk2 s n) = some (.done r2) ∧ Post r1 r2) : ∃ r1 r2, loop step1 (mk1 s 0) = some r1 ∧ loop step2 (mk2 s 0) = some r2 ∧ Post r1 r2 := by
  have key : ∀ m k s, k + m = n → I k s → ∃ r1 r2, loop step1 (mk1 s k) = some r1 ∧ loop step2 (mk2 s k) = some r2 ∧ Post r1 r2 := by
    intro m
    induction m with
    | zero =>
      intro k s hk hI
      obtain rfl : k = n := by omega
      obtain ⟨r1, r2, a, b, hp⟩ := h3 s hI
      exact ⟨r1, r2, loop_done a, loop_done b, hp⟩
    | succ m ih =>
      intro k s hk hI
      obtain ⟨s', a, b, hI'⟩ := h2 k s (by omega) hI
      obtain ⟨r1, r2, c, d, hp⟩ := ih (k + 1) s' (by omega) hI'
      exact ⟨r1, r2, loop_next' a c, loop_next' b d, hp⟩
  exact key n 0 s (by omega) hI

theorem count_put {c : List Int} {i : Nat} {v : Int} (hi : c[i]? = some 0) (hv : v ≠ 0) : (c.set i v).count 0 + 1 = c.count 0 := by
  induction c generalizing i with
  | nil => simp at hi
  | cons a c ih =>
    cases i with
    | zero =>
      simp only [List.getElem?_cons_zero, Option.some.injEq] at hi
      subst hi
      rw [List.set_cons_zero, List.count_cons_of_ne hv, List.count_cons_self]
    | succ i =>
      simp only [List.getElem?_cons_succ] at hi
      rw [List.set_cons_succ, List.count_cons, List.count_cons]
      have := ih hi
      omega

section
variable {W H k : Int}

theorem Bd.set {c : List Int} (B : Bd W H c k) (i : Nat) (v : Int) : Bd W H (c.set i v) k := ⟨B.w, B.h, by rw [List.length_set]; exact B.len, B.k⟩
theorem vals_set {c : List Int} (hv : ∀ x ∈ c, 0 ≤ x ∧ x ≤ 2) (i : Nat) {v : Int} (h : 0 ≤ v ∧ v ≤ 2) : ∀ x ∈ c.set i v, 0 ≤ x ∧ x ≤ 2 := by
  intro x hx
  rcases List.mem_or_eq_of_mem_set hx with h1 | h1
  · exact hv x h1
  · rw [h1]; exact h

theorem wonN_bd {c : List Int} : 0 ≤ wonN W H c k ∧ wonN W H c k ≤ 3 := by
  unfold wonN
  split <;> split <;> omega

theorem gridOf_eq {W H : Int} {c : List Int} (h : c.length ≤ 300) : gameroomref_GridOf_m W H c = some (W, H, c) := by
  unfold gameroomref_GridOf_m gameroomref_Ints_m
  rw [asrt_pos (by unfold bigN; omega)]
  simp

def stepW (best : Int) (wh : List Int) (v i : Int) : Int × List Int := if best < -v then (-v, [i]) else if -v = best then (best, wh ++ [i]) else (best, wh)

theorem value_both {Ls : List (List Int)} (hD : DescL W H k (AllS W H) 400 Ls) : ∀ (n : Nat) (c : List Int) (who : Int), Bd W H c k → (∀ x ∈ c, 0 ≤ x ∧ x ≤ 2) → (who = 1 ∨ who = 2) → c.count 0 < n →
    ∃ v w, rows_match_value_2_mF n c Ls who = some (v, w, c) ∧ gameroomref_SolveGrid_mF n W H c k who = some (v, w) ∧ -1 ≤ v ∧ v ≤ 1 ∧ w.length ≤ c.length := by
  intro n
  induction n with
  | zero => intro c who _ _ _ h; omega
  | succ n ih =>
    intro c who B hv hw hc
    have hsm := B.small
    have hwn := wonN_bd (W := W) (H := H) (c := c) (k := k)
    show ∃ v w, rows_match_value_2_B (rows_match_value_2_mF n) c Ls who = some (v, w, c) ∧ gameroomref_SolveGrid_B (gameroomref_SolveGrid_mF n) W H c k who = some (v, w) ∧ _
    unfold rows_match_value_2_B gameroomref_SolveGrid_B
    rw [won_eq B hv hD, WonOf_eq B]
    simp only [Option.bind_some]
    by_cases w0 : wonN W H c k = 0
    · rw [if_pos (by simpa using w0), if_neg (by simp; omega)]
      unfold gameroomref_SolveGrid_J1
      rw [if_neg (by simp; omega)]
      unfold rows_match_value_2_J1 gameroomref_SolveGrid_J2
      have key : ∃ r1 r2, loop (rows_match_value_2_L1 (rows_match_value_2_mF n) c Ls who) (c, (-2), ([] : List Int), 0) = some r1 ∧ loop (gameroomref_SolveGrid_L1 (gameroomref_SolveGrid_mF n) W H c k who) ((-2), ([] : List Int), 0) = some r2 ∧
          (∃ best wh, r1 = (best, wh, c) ∧ r2 = (best, wh) ∧ -2 ≤ best ∧ best ≤ 1 ∧ wh.length ≤ c.length) := by
        refine count_loop2 (step1 := rows_match_value_2_L1 (rows_match_value_2_mF n) c Ls who) (step2 := gameroomref_SolveGrid_L1 (gameroomref_SolveGrid_mF n) W H c k who) (fun (s : Int × List Int) (i : Nat) => (c, s.1, s.2, (i : Int))) (fun s i => (s.1, s.2, (i : Int)))
          (fun i s => -2 ≤ s.1 ∧ s.1 ≤ 1 ∧ s.2.length ≤ i) (fun r1 r2 => ∃ best wh, r1 = (best, wh, c) ∧ r2 = (best, wh) ∧ -2 ≤ best ∧ best ≤ 1 ∧ wh.length ≤ c.length) c.length (-2, []) ⟨by simp, by simp, by simp⟩ ?_ ?_
        · rintro i ⟨best, wh⟩ hi ⟨h1, h2, h3⟩
          simp only at h1 h2 h3
          have e1 : rows_match_value_2_L1 (rows_match_value_2_mF n) c Ls who (c, best, wh, (i : Int)) = rows_match_value_2_J3 (rows_match_value_2_mF n) c Ls who c best wh i := if_pos (by simp; omega)
          have e2 : gameroomref_SolveGrid_L1 (gameroomref_SolveGrid_mF n) W H c k who (best, wh, (i : Int)) = gameroomref_SolveGrid_J4 (gameroomref_SolveGrid_mF n) W H c k who best wh i := if_pos (by simp; omega)
          unfold rows_match_value_2_J3 at e1
          unfold gameroomref_SolveGrid_J4 at e2
          rw [asrt_pos (by omega)] at e1 e2
          simp only
          by_cases z : geti c (i : Int) = 0
          · rw [if_neg (by simpa using z)] at e1 e2
            unfold rows_match_value_2_J5 at e1
            unfold gameroomref_SolveGrid_J6 at e2
            have hci : c[i]? = some 0 := by
              rw [List.getElem?_eq_getElem hi, ← z]
              congr 1
              exact (geti_some (List.getElem?_eq_getElem hi)).symm
            have hput := count_put hci (show who ≠ 0 by omega)
            obtain ⟨v, w, r1, r2, v1, v2, _⟩ := ih (c.set i who) (3 - who) (B.set i who) (vals_set hv i (by omega)) (by omega) (by omega)
            rw [asrt_pos (by omega), Int.toNat_natCast, w64_of (x := 3 - who) (by omega), r1, Option.bind_some, asrt_pos (by omega)] at e1
            rw [gridOf_eq hsm, Option.bind_some] at e2
            simp only at e1 e2
            rw [asrt_pos (by omega), Int.toNat_natCast, w64_of (x := 3 - who) (by omega), r2, Option.bind_some] at e2
            simp only at e1 e2
            rw [w64_of (x := 0 - v) (by omega), show 0 - v = -v by omega] at e1 e2
            have hback : (c.set i who).set i 0 = c := by
              rw [List.set_set]
              apply List.ext_getElem?
              intro j
              rw [List.getElem?_set]
              by_cases e : i = j
              · subst e; rw [if_pos rfl, if_pos hi, hci]
              · rw [if_neg e]
            refine ⟨stepW best wh v i, ?_, ?_, ?_⟩
            · rw [e1]
              unfold stepW
              by_cases q1 : best < -v
              · rw [if_pos (decide_eq_true q1), if_pos q1]
                unfold rows_match_value_2_J6 rows_match_value_2_J4
                simp only
                rw [w64_of (x := 0 - v) (by omega), show 0 - v = -v by omega, if_pos (by simp), asrt_pos (by unfold bigN; simp), Int.toNat_natCast, hback, w64_of (by omega)]
                simp
              · rw [if_neg (by simpa using q1), if_neg q1]
                unfold rows_match_value_2_J6 rows_match_value_2_J4
                simp only
                rw [w64_of (x := 0 - v) (by omega), show 0 - v = -v by omega]
                by_cases q2 : -v = best
                · rw [if_pos (by simpa using q2), if_pos q2, asrt_pos (by unfold bigN; omega), Int.toNat_natCast, hback, w64_of (by omega)]
                  simp
                · rw [if_neg (by simpa using q2), if_neg q2, Int.toNat_natCast, hback, w64_of (by omega)]
                  simp
            · rw [e2]
              unfold stepW
              by_cases q1 : best < -v
              · rw [if_pos (decide_eq_true q1), if_pos q1]
                unfold gameroomref_SolveGrid_J7 gameroomref_SolveGrid_J5
                simp only
                rw [w64_of (x := 0 - v) (by omega), show 0 - v = -v by omega, if_pos (by simp), asrt_pos (by unfold bigN; simp), w64_of (by omega)]
                simp
              · rw [if_neg (by simpa using q1), if_neg q1]
                unfold gameroomref_SolveGrid_J7 gameroomref_SolveGrid_J5
                simp only
                rw [w64_of (x := 0 - v) (by omega), show 0 - v = -v by omega]
                by_cases q2 : -v = best
                · rw [if_pos (by simpa using q2), if_pos q2, asrt_pos (by unfold bigN; omega), w64_of (by omega)]
                  simp
                · rw [if_neg (by simpa using q2), if_neg q2, w64_of (by omega)]
                  simp
            · unfold stepW
              by_cases q1 : best < -v
              · rw [if_pos q1]
                exact ⟨by simp only; omega, by simp only; omega, by simp⟩
              · rw [if_neg q1]
                by_cases q2 : -v = best
                · rw [if_pos q2]
                  exact ⟨by simp only; omega, by simp only; omega, by simp; omega⟩
                · rw [if_neg q2]
                  exact ⟨h1, h2, by simp only; omega⟩
          · rw [if_pos (by simpa using z)] at e1 e2
            unfold rows_match_value_2_J4 at e1
            unfold gameroomref_SolveGrid_J5 at e2
            rw [w64_of (by omega)] at e1 e2
            refine ⟨(best, wh), by rw [e1]; simp, by rw [e2]; simp, h1, h2, by simp only; omega⟩
        · rintro ⟨best, wh⟩ ⟨h1, h2, h3⟩
          refine ⟨(best, wh, c), (best, wh), if_neg (by simp), if_neg (by simp), best, wh, rfl, rfl, h1, h2, h3⟩
      obtain ⟨r1, r2, h1, h2, best, wh, rfl, rfl, h3, h4, h5⟩ := key
      rw [h1, h2]
      simp only [Option.bind_some, rows_match_value_2_K1, gameroomref_SolveGrid_K1, rows_match_value_2_J2, gameroomref_SolveGrid_J3, rows_match_value_2_J7, gameroomref_SolveGrid_J8]
      by_cases q : best = -2
      · rw [if_pos (by simp; omega), if_pos (by simpa using q)]
        exact ⟨0, [], rfl, rfl, by omega, by omega, by simp⟩
      · rw [if_neg (by simp; omega), if_neg (by simpa using q)]
        exact ⟨best, wh, rfl, rfl, by omega, by omega, h5⟩
    · rw [if_neg (by simpa using w0)]
      by_cases w1 : wonN W H c k = who
      · rw [if_pos (by simpa using w1), if_pos (by simpa using w1)]
        exact ⟨1, [], rfl, rfl, by omega, by omega, by simp⟩
      · rw [if_neg (by simpa using w1), if_neg (by simpa using w1)]
        unfold gameroomref_SolveGrid_J1
        rw [if_pos (by simp; omega)]
        exact ⟨-1, [], rfl, rfl, by omega, by omega, by simp⟩
end
end Go.Proofs.Ytbmhcapeikebgaa
