/-
  Magic squares: the law answers true.
-/
import Derived.Test.YtlpaklmfgldkoaaMKe
namespace Go.Proofs.Ytlpaklmfgldkoaa
open Go Go.GL

/-- A number that may not be given. -/
def badV (n : Nat) (x : Int) : Bool := decide (x < 0) || decide (((n * n : Nat) : Int) < x)

theorem contains_p {n : Nat} (h3 : n ≤ 3) {g : List Int} (hl : g.length ≤ 1000) : slices_ContainsFunc_m g n = some (g.any (badV n)) := by
  unfold slices_ContainsFunc_m slices_IndexFunc_m
  have e : ∀ x : Int, magic_Count_1_m x n = some (badV n x) := fun x => by
    unfold magic_Count_1_m badV
    rw [w64_sq h3]
  rw [search_loop (l := g) (badV n) (fun i => Fl.ret (i : Int)) (Fl.go ()) ?_ ?_ ?_]
  · have hf := fidx_neg (badV n) g
    unfold fidx at hf
    cases h : g.findIdx? (badV n) with
    | none =>
      rw [h] at hf
      simp only at hf
      show some (decide ((0 : Int) ≤ -1)) = _
      congr 1
      rw [Bool.eq_iff_iff, decide_eq_true_eq]
      exact hf
    | some i =>
      rw [h] at hf
      simp only at hf
      show some (decide ((0 : Int) ≤ (i : Int))) = _
      congr 1
      rw [Bool.eq_iff_iff, decide_eq_true_eq]
      exact hf
  · intro i x hx hp
    have hb := idx_bd hx
    simp only [slices_IndexFunc_L1, slices_IndexFunc_J2]
    rw [if_pos (by simpa using hb.2), asrt_pos hb, geti_some hx, e, Option.bind_some, if_pos hp]
  · intro i x hx hp
    have hb := idx_bd hx
    simp only [slices_IndexFunc_L1, slices_IndexFunc_J2, slices_IndexFunc_J3]
    rw [if_pos (by simpa using hb.2), asrt_pos hb, geti_some hx, e, Option.bind_some, if_neg (by simp [hp]), w64_of (by omega)]
  · simp only [slices_IndexFunc_L1]
    rw [if_neg (by simp)]

theorem no_set (m : Int) (g : List Int) {no : Int} (h : no ≠ 0) : loop (gameroomlaw_MagicMakes_L1 m g) (no, 0) = some no := by
  refine loop_done ?_
  simp only [gameroomlaw_MagicMakes_L1]
  rw [if_neg (by simp [h])]

theorem no_loop {n : Nat} (h3 : n ≤ 3) {g : List Int} (hl : g.length ≤ 1000) : loop (gameroomlaw_MagicMakes_L1 n g) (0, 0) = some (if g.any (badV n) then 4 else 0) := by
  have key : ∀ (r : List Int) (k : Nat), g.drop k = r → k ≤ g.length → loop (gameroomlaw_MagicMakes_L1 n g) (0, (k : Int)) = some (if r.any (badV n) then 4 else 0) := by
    intro r
    induction r with
    | nil =>
      intro k hk hkl
      have hlen : g.length ≤ k := List.drop_eq_nil_iff.1 hk
      refine loop_done ?_
      simp only [gameroomlaw_MagicMakes_L1]
      rw [if_neg (by simp; omega)]
      rfl
    | cons x r ih =>
      intro k hk hkl
      have hx : g[k]? = some x := by
        have := congrArg (fun q => q[0]?) hk
        simpa using this
      have hb := idx_bd hx
      have hd : g.drop (k + 1) = r := by
        have := congrArg (List.drop 1) hk
        rw [List.drop_drop] at this
        simpa using this
      have st : gameroomlaw_MagicMakes_L1 n g (0, (k : Int)) = some (.next (if badV n x then 4 else 0, ((k + 1 : Nat) : Int))) := by
        simp only [gameroomlaw_MagicMakes_L1, gameroomlaw_MagicMakes_J3, gameroomlaw_MagicMakes_J4]
        rw [if_pos (by simp only [Bool.and_eq_true, decide_eq_true_eq]; exact ⟨hb.2, rfl⟩), asrt_pos hb, asrt_pos (fun _ => hb), geti_some hx, w64_sq h3, w64_of (x := (k : Int) + 1) (by omega)]
        show (if badV n x = true then _ else _) = _
        cases badV n x <;> rfl
      cases hbv : badV n x with
      | true =>
        rw [hbv] at st
        refine loop_next' st ?_
        rw [List.any_cons, hbv, Bool.true_or, if_pos rfl]
        refine loop_done ?_
        simp only [gameroomlaw_MagicMakes_L1]
        rw [if_neg (by simp)]
      | false =>
        rw [hbv] at st
        rw [List.any_cons, hbv, Bool.false_or]
        exact loop_next' st (ih (k + 1) hd (by omega))
  exact key g 0 rfl (by omega)

theorem true_MagicMakes (x0 x1 : Int) (x2 : List Int) (_h0 : inI x0) (_h1 : inI x1) (h2 : x2.length ≤ 17592186043904) (_h2' : ∀ x ∈ x2, inI x) :
    gameroomlaw_MagicMakes_m x0 x1 x2 = some true := by
  obtain ⟨r1, hr1, hJ⟩ := make_ok x0
  have hbig : (0 : Int) + (x2.length : Int) ≤ bigN := by unfold bigN; omega
  have hints : gameroomlaw_ints_m x2 = some x2 := by
    unfold gameroomlaw_ints_m
    rw [asrt_pos hbig]
    rfl
  unfold gameroomlaw_MagicMakes_m
  rw [hr1, Option.bind_some, hints, Option.bind_some]
  by_cases hm : x1 < 1 ∨ 3 < x1
  · have hc : (decide (x1 < 1) || decide ((3 : Int) < x1)) = true := by simpa using hm
    have hC : magic_Count_m x1 x2 = some (0, 3) := by
      unfold magic_Count_m
      rw [if_pos hc]
    rw [hC, Option.bind_some, if_pos hc]
    unfold gameroomlaw_MagicMakes_J1
    rw [no_set x1 x2 (by decide), Option.bind_some]
    unfold gameroomlaw_MagicMakes_K1 gameroomlaw_MagicMakes_J2
    dsimp only
    rw [if_pos (by decide), if_neg (by decide)]
    exact hJ
  · have hc : ¬ (decide (x1 < 1) || decide ((3 : Int) < x1)) = true := by simpa using hm
    obtain ⟨n, rfl⟩ : ∃ n : Nat, x1 = (n : Int) := ⟨x1.toNat, by omega⟩
    have hn1 : 1 ≤ n := by omega
    have hn3 : n ≤ 3 := by omega
    have h9 := sq_le n hn3
    by_cases hl : x2.length = n * n
    · have hl' : ¬ ((x2.length : Int) != w64 ((n : Int) * (n : Int))) = true := by rw [w64_sq hn3, hl]; simp
      have hco := contains_p hn3 (g := x2) (by omega)
      have hno := no_loop hn3 (g := x2) (by omega)
      by_cases ha : x2.any (badV n) = true
      · have hC : magic_Count_m n x2 = some (0, 4) := by
          unfold magic_Count_m
          rw [if_neg hc, if_neg hl', hco, Option.bind_some, if_pos ha]
        rw [ha, if_pos rfl] at hno
        rw [hC, Option.bind_some, if_neg hc, if_neg hl']
        unfold gameroomlaw_MagicMakes_J1
        rw [hno, Option.bind_some]
        unfold gameroomlaw_MagicMakes_K1 gameroomlaw_MagicMakes_J2
        dsimp only
        rw [if_pos (by decide), if_neg (by decide)]
        exact hJ
      · have hC : magic_Count_m n x2 = some (((sumN (fun k => cF n x2 (nthF (n * n) (n * n) k [])) (fac (n * n)) : Nat) : Int), 0) := by
          unfold magic_Count_m
          rw [if_neg hc, if_neg hl', hco, Option.bind_some, if_neg ha]
          exact count_p hn1 hn3 hl
        rw [if_neg ha] at hno
        rw [hC, Option.bind_some, if_neg hc, if_neg hl']
        unfold gameroomlaw_MagicMakes_J1
        rw [hno, Option.bind_some]
        unfold gameroomlaw_MagicMakes_K1 gameroomlaw_MagicMakes_J2
        dsimp only
        rw [if_neg (by decide), if_pos (by decide), count_r hn1 hn3 hl, Option.bind_some, if_neg (by simp)]
        exact hJ
    · have hl' : ((x2.length : Int) != w64 ((n : Int) * (n : Int))) = true := by rw [w64_sq hn3]; simp; omega
      have hC : magic_Count_m n x2 = some (0, 2) := by
        unfold magic_Count_m
        rw [if_neg hc, if_pos hl']
      rw [hC, Option.bind_some, if_neg hc, if_pos hl']
      unfold gameroomlaw_MagicMakes_J1
      rw [no_set _ x2 (by decide), Option.bind_some]
      unfold gameroomlaw_MagicMakes_K1 gameroomlaw_MagicMakes_J2
      dsimp only
      rw [if_pos (by decide), if_neg (by decide)]
      exact hJ
end Go.Proofs.Ytlpaklmfgldkoaa
