/-
  SlideMoves: the law.
-/
import Derived.Test.YtlkdblflibgfpaaVC
namespace Go.Proofs.Ytlkdblflibgfpaa
open Go Go.GL

theorem ints_p {l : List Int} (hl : l.length ≤ 17592186043904) : gameroomlaw_ints_m l = some l := by
  unfold gameroomlaw_ints_m
  rw [asrt_pos (by unfold bigN; omega)]; rfl

theorem same_p (c : List Int) (hl : c.length ≤ 17592186043904) : gameroomref_sameInts_m c c = some true := by
  unfold gameroomref_sameInts_m gameroomref_sameInts_J1
  rw [if_neg (by simp)]
  have h := loop_from (step := gameroomref_sameInts_L1 c c) (s0 := 0) (r := Fl.go ()) (fun k => ((k : Nat) : Int)) c.length rfl (by
    intro k hk
    simp only [gameroomref_sameInts_L1, gameroomref_sameInts_J3, gameroomref_sameInts_J4]
    rw [if_pos (decide_eq_true (by omega)), asrt_pos (by omega), asrt_pos (by omega), if_neg (by simp), w64_of (by omega)]; rfl) (by
    simp only [gameroomref_sameInts_L1]; rw [if_neg (by simp)])
  rw [h]; rfl

theorem do_p {g1 g2 : Int} {c l : List Int} (hc : c.length ≤ 17592186043904) (hl : l.length ≤ 17592186043904) : mayB g1 g2 c = true →
    ∃ c' n no, slide_Do_m g1 g2 c l = some (g1, g2, c', n, no) ∧ loop (gameroomlaw_SlideMoves_L1 l) (g1, g2, c, 0, 0, 0) = some (g1, g2, c', n, no) ∧ c'.length ≤ 17592186043904 := by
  intro h
  obtain ⟨a, b, rfl, rfl, ha, hb, hlen, hN, ho⟩ := may_sz h
  have h0 : 0 < a * b := Nat.mul_pos (by omega) (by omega)
  have hg := Gap.ord ho (by omega)
  obtain ⟨c', n, no, ⟨x, h1, h2⟩, h3, h4⟩ := run_both ha hb hN hl (r2 := ((a : Int), (b : Int), c, (pos c 0 : Int))) rfl rfl l.length 0 c (pos c 0) (by omega) hlen hg
  refine ⟨c', n, no, ?_, h3, ?_⟩
  · unfold slide_Do_m
    rw [may_p hc, h, Option.bind_some, if_neg (by simp)]
    unfold slide_Do_J1 slide_newTray_m slices_Clone_m slices_Clone_J1 slide_newTray_J1
    rw [asrt_pos (by unfold bigN; omega), Option.bind_some, List.nil_append, hg.index (by omega), Option.bind_some, Option.bind_some]
    have h1' : loop (slide_Do_L1 l ((a : Int), (b : Int), c, (pos c 0 : Int))) (c, (pos c 0 : Int), 0) = some x := h1
    rw [h1', Option.bind_some, h2]
  · omega

theorem true_SlideMoves (g1 g2 : Int) (c l : List Int) (_h1 : inI g1) (_h2 : inI g2) (hc : c.length ≤ 17592186043904) (_hy : ∀ y ∈ c, inI y) (hl : l.length ≤ 17592186043904) (_hz : ∀ y ∈ l, inI y) : gameroomlaw_SlideMoves_m g1 g2 c l = some true := by
  unfold gameroomlaw_SlideMoves_m
  rw [grid_p hc, Option.bind_some]
  dsimp only
  rw [may_p hc, Option.bind_some, Option.bind_some, ints_p hl, Option.bind_some, may_r hc]
  cases hm : mayB g1 g2 c with
  | false =>
    have e1 : slide_Do_m g1 g2 c l = some (0, 0, [], 0, 12) := by
      unfold slide_Do_m; rw [may_p hc, hm, Option.bind_some, if_pos (by simp)]
    have e2 : slide_Can_m g1 g2 c = some (false, 12) := by
      unfold slide_Can_m; rw [may_p hc, hm, Option.bind_some, if_pos (by simp)]
    have e3 : slide_Least_m g1 g2 c = some (0, 12) := by
      unfold slide_Least_m; rw [may_p hc, hm, Option.bind_some, if_pos (by simp)]
    rw [e1, Option.bind_some, Option.bind_some]
    dsimp only
    rw [e2, Option.bind_some, Option.bind_some]
    dsimp only
    rw [e3, Option.bind_some, Option.bind_some]
    rfl
  | true =>
    obtain ⟨c', n, no, hd, hlp, hc'⟩ := do_p hc hl hm
    obtain ⟨a, b, rfl, rfl, ha, hb, hlen, hN, ho⟩ := may_sz hm
    obtain ⟨v, hv1, hv2⟩ := can_both ha hb hN hlen ho
    have hl1 := least_p ha hN hlen ho
    have hl2 := least_r ha hb hN hlen ho
    generalize sm (a * b) (fun i => far a (val c i) i) = S at *
    have e2 : slide_Can_m a b c = some (v, 0) := by
      unfold slide_Can_m; rw [may_p hc, hm, Option.bind_some, if_neg (by simp), hv1]
    have e3 : slide_Least_m a b c = some (S, 0) := by
      unfold slide_Least_m; rw [may_p hc, hm, Option.bind_some, if_neg (by simp), hl1]
    rw [hd, Option.bind_some, Option.bind_some]
    dsimp only
    rw [e2, Option.bind_some, Option.bind_some]
    dsimp only
    rw [e3, Option.bind_some, Option.bind_some, if_neg (by simp)]
    unfold gameroomlaw_SlideMoves_J1
    rw [grid_p hc, Option.bind_some]
    dsimp only
    rw [hlp, Option.bind_some]
    simp only [gameroomlaw_SlideMoves_K1]
    unfold gameroomlaw_SlideMoves_J2 gameroomref_SameGrid_m
    dsimp only
    rw [if_pos (by simp), if_pos (by simp), same_p c' hc', Option.bind_some, Option.bind_some, if_pos (by simp), hv2, Option.bind_some, if_pos (by simp), hl2, Option.bind_some]
    simp
end Go.Proofs.Ytlkdblflibgfpaa
