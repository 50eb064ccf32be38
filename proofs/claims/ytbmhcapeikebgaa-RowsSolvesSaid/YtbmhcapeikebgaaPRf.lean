/-
  RowsSolves: the law.
-/
import Derived.Test.YtbmhcapeikebgaaPRe
import Derived.Test.YtbmhcapeikebgaaLibT
namespace Go.Proofs.Ytbmhcapeikebgaa
open Go Go.GL

theorem sameInts_eq {a b : List Int} (ha : a.length ≤ 17592186044416) : gameroomlaw_sameInts_m a b = some (decide (a = b)) := by
  unfold gameroomlaw_sameInts_m
  by_cases hl : a.length = b.length
  · rw [if_neg (by simp [hl])]
    unfold gameroomlaw_sameInts_J1
    have h := count_loop (step := gameroomlaw_sameInts_L1 a b) (fun (_ : Unit) k => (k : Int)) (fun k _ => ∀ i, i < k → a[i]? = b[i]?) (fun r => gameroomlaw_sameInts_K1 r = some (decide (a = b))) a.length () (fun i hi => by omega) ?_ ?_
    · obtain ⟨r, h1, h2⟩ := h
      have h1' : loop (gameroomlaw_sameInts_L1 a b) 0 = some r := h1
      rw [h1']
      exact h2
    · intro i _ hi hI
      obtain ⟨x, hx⟩ : ∃ x, a[i]? = some x := ⟨_, List.getElem?_eq_getElem hi⟩
      obtain ⟨y, hy⟩ : ∃ y, b[i]? = some y := ⟨_, List.getElem?_eq_getElem (by omega)⟩
      simp only [gameroomlaw_sameInts_L1, gameroomlaw_sameInts_J3]
      rw [if_pos (by simpa using hi), asrt_pos (idx_bd hx), asrt_pos (idx_bd hy), geti_some hx, geti_some hy]
      by_cases hxy : x = y
      · left
        rw [if_neg (by simp [hxy])]
        refine ⟨(), by simp only [gameroomlaw_sameInts_J4]; rw [w64_succ (by omega)]; rfl, fun j hj => ?_⟩
        by_cases hji : j = i
        · subst hji; rw [hx, hy, hxy]
        · exact hI j (by omega)
      · right
        rw [if_pos (by simp [hxy])]
        refine ⟨_, rfl, ?_⟩
        have hne : a ≠ b := fun h => hxy (by rw [h, hy] at hx; exact (Option.some.inj hx).symm)
        simp [gameroomlaw_sameInts_K1, hne]
    · intro _ hI
      refine ⟨Fl.go (), ?_, ?_⟩
      · simp only [gameroomlaw_sameInts_L1]
        rw [if_neg (by simp)]
      · have : a = b := by
          apply List.ext_getElem?
          intro i
          by_cases hi : i < a.length
          · exact hI i hi
          · rw [List.getElem?_eq_none (by omega), List.getElem?_eq_none (by omega)]
        simp [gameroomlaw_sameInts_K1, gameroomlaw_sameInts_J2, this]
  · rw [if_pos (by simp; omega)]
    have : a ≠ b := fun h => hl (by rw [h])
    simp [this]

theorem gridOf_any (W H : Int) {c : List Int} (h : c.length ≤ 17592186044416) : gameroomref_GridOf_m W H c = some (W, H, c) := by
  unfold gameroomref_GridOf_m gameroomref_Ints_m
  rw [asrt_pos (by unfold bigN; omega)]
  simp
theorem clone_any {l : List Int} (h : l.length ≤ 17592186044416) : slices_Clone_m l = some l := by
  unfold slices_Clone_m slices_Clone_J1
  rw [asrt_pos (by unfold bigN; omega)]
  simp

theorem okG_of {W H : Int} {c : List Int} (h : okG W H c = true) : dimG W H c ∧ ∀ x ∈ c, 0 ≤ x ∧ x ≤ 2 := by
  unfold okG at h
  rw [Bool.and_eq_true] at h
  refine ⟨of_decide_eq_true h.1, fun x hx => ?_⟩
  have h2 : c.any offG = false := by simpa using h.2
  rw [List.any_eq_false] at h2
  have := h2 x hx
  rw [offG_in] at this
  simp at this
  omega

theorem true_RowsSolves (W H : Int) (c : List Int) (k : Int) (_hw : inI W) (_hh : inI H) (hl : c.length ≤ 17592186043904) (_hy : ∀ y ∈ c, inI y) (_hk : inI k) : gameroomlaw_RowsSolves_m W H c k = some true := by
  have hl' : c.length ≤ 17592186044416 := by omega
  unfold gameroomlaw_RowsSolves_m
  rw [gridOf_any W H hl', Option.bind_some]
  simp only
  rw [gridMay_eq W H hl', mover_eq W H hl', open_eq W H hl']
  unfold rows_Solve_m
  rw [may_p W H hl']
  simp only [Option.bind_some]
  by_cases h1 : okG W H c = true
  · obtain ⟨hd, hv⟩ := okG_of h1
    have hd' := hd
    obtain ⟨d1, d2, d3, d4, d5⟩ := hd'
    rw [h1, if_neg (by decide)]
    by_cases h2 : k < 1 ∨ 10 < k
    · have e : ((decide (k < 1)) || (decide ((10 : Int) < k))) = true := by simpa using h2
      rw [if_pos e]
      simp only [Option.bind_some]
      rw [if_neg (by decide), if_pos e]
      unfold gameroomlaw_RowsSolves_J1
      rfl
    · have e : ((decide (k < 1)) || (decide ((10 : Int) < k))) = false := by simp; omega
      rw [e, if_neg (by decide)]
      have B : Bd W H c k := ⟨⟨d1, d2⟩, ⟨d3, d4⟩, d5, by omega⟩
      have hsm := B.small
      have b0 := List.count_le_length (a := (0 : Int)) (l := c)
      have b1 := List.count_le_length (a := (1 : Int)) (l := c)
      have b2 := List.count_le_length (a := (2 : Int)) (l := c)
      have hS : rows_Solve_J1 W H c k = if moverG c = 0 then some (0, [], 7) else if 9 < (c.count 0 : Int) then some (0, [], 2) else rows_Solve_J5 W H c k [(c.count 0 : Int), (c.count 1 : Int), (c.count 2 : Int)] := by
        unfold rows_Solve_J1
        rw [many_eq hl' hv, Option.bind_some]
        change rows_Solve_J2 W H c k [(c.count 0 : Int), (c.count 1 : Int), (c.count 2 : Int)] = _
        unfold rows_Solve_J2
        rw [asrt_pos (by decide), asrt_pos (by decide), asrt_pos (by decide)]
        rw [show geti [(c.count 0 : Int), (c.count 1 : Int), (c.count 2 : Int)] 0 = (c.count 0 : Int) from rfl, show geti [(c.count 0 : Int), (c.count 1 : Int), (c.count 2 : Int)] 1 = (c.count 1 : Int) from rfl, show geti [(c.count 0 : Int), (c.count 1 : Int), (c.count 2 : Int)] 2 = (c.count 2 : Int) from rfl, w64_of (by omega)]
        change (if (leadG c != 0 && leadG c != 1) = true then _ else _) = _
        unfold moverG
        by_cases q1 : leadG c = 0
        · rw [if_neg (by simp [q1]), if_pos q1, if_neg (show ¬ (1 : Int) = 0 by decide)]
          by_cases q3 : 9 < (c.count 0 : Int)
          · rw [if_pos (decide_eq_true q3), if_pos q3]
          · rw [if_neg (by simpa using q3), if_neg q3]
        · by_cases q2 : leadG c = 1
          · rw [if_neg (by simp [q2]), if_neg q1, if_pos q2, if_neg (show ¬ (2 : Int) = 0 by decide)]
            by_cases q3 : 9 < (c.count 0 : Int)
            · rw [if_pos (decide_eq_true q3), if_pos q3]
            · rw [if_neg (by simpa using q3), if_neg q3]
          · rw [if_pos (by simp [q1, q2]), if_neg q1, if_neg q2, if_pos rfl]
      rw [hS]
      by_cases h3 : moverG c = 0
      · rw [if_pos h3]
        simp only [Option.bind_some]
        rw [if_neg (by decide), if_neg (by decide), if_pos (by simpa using h3)]
        unfold gameroomlaw_RowsSolves_J1
        rfl
      · rw [if_neg h3]
        by_cases h4 : 9 < (c.count 0 : Int)
        · rw [if_pos h4]
          simp only [Option.bind_some]
          rw [if_neg (by decide), if_neg (by decide), if_neg (by simpa using h3), if_pos (decide_eq_true h4)]
          unfold gameroomlaw_RowsSolves_J1
          rfl
        · rw [if_neg h4]
          have hwho : moverG c = 1 ∨ moverG c = 2 := by
            unfold moverG at h3 ⊢
            split
            · exact Or.inl rfl
            · split
              · exact Or.inr rfl
              · rename_i q1 q2
                rw [if_neg q1, if_neg q2] at h3
                exact absurd rfl h3
          have hlead : w64 (1 + w64 ((c.count 1 : Int) - c.count 2)) = moverG c := by
            rw [w64_of (x := (c.count 1 : Int) - c.count 2) (by omega), w64_of (by omega)]
            unfold moverG at h3 ⊢
            unfold leadG at h3 ⊢
            split
            · omega
            · split
              · omega
              · rename_i q1 q2
                rw [if_neg q1, if_neg q2] at h3
                exact absurd rfl h3
          obtain ⟨Ls, hL, hD⟩ := lines_eq (k := k) ⟨d1, d2⟩ ⟨d3, d4⟩ B.k
          obtain ⟨v, w, r1, r2, v1, v2, v3⟩ := value_both hD (c.count 0 + 1) c (moverG c) B hv hwho (by omega)
          have hJ5 : rows_Solve_J5 W H c k [(c.count 0 : Int), (c.count 1 : Int), (c.count 2 : Int)] = some (v, w, 0) := by
            unfold rows_Solve_J5
            rw [clone_any hl', Option.bind_some, hL, Option.bind_some]
            rw [show geti [(c.count 0 : Int), (c.count 1 : Int), (c.count 2 : Int)] 1 = (c.count 1 : Int) from rfl, show geti [(c.count 0 : Int), (c.count 1 : Int), (c.count 2 : Int)] 2 = (c.count 2 : Int) from rfl, hlead, rows_match_value_2_m_of _ _ _ _ r1]
            rfl
          rw [hJ5]
          simp only [Option.bind_some]
          rw [if_neg (by decide), if_neg (by decide), if_neg (by simpa using h3), if_neg (by simpa using h4)]
          unfold gameroomlaw_RowsSolves_J1
          rw [if_neg (by decide)]
          unfold gameroomlaw_RowsSolves_J2
          rw [mover_eq W H hl', Option.bind_some, gameroomref_SolveGrid_m_of _ _ _ _ _ _ r2, Option.bind_some]
          unfold gameroomlaw_RowsSolves_J3
          simp only
          rw [if_pos (by simp), sameInts_eq (by omega), Option.bind_some]
          simp
  · rw [Bool.not_eq_true] at h1
    rw [h1, if_pos (show (!false) = true from rfl)]
    simp only [Option.bind_some]
    rw [if_pos (show (!false) = true from rfl)]
    unfold gameroomlaw_RowsSolves_J1
    rfl
end Go.Proofs.Ytbmhcapeikebgaa
