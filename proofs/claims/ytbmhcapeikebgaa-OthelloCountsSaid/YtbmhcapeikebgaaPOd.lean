/-
  OthelloCounts: the recursion and the law.
-/
import Derived.Test.YtbmhcapeikebgaaPOc
import Derived.Test.YtbmhcapeikebgaaLibT
namespace Go.Proofs.Ytbmhcapeikebgaa
open Go Go.GL

section
variable {W H : Int} {c : List Int} {who : Int}

noncomputable def nextW (W H : Int) (c : List Int) (who : Int) : Int := if plcs W H c who c.length ≠ [] then who else if plcs W H c (3 - who) c.length ≠ [] then 3 - who else 0

theorem mover_p (B : Dm W H c) (hw : who = 1 ∨ who = 2) : othello_mover_m W H c who = some (nextW W H c who) := by
  unfold othello_mover_m nextW
  have s0 : othello_mover_L1 W H c who 0 = if plcs W H c who c.length ≠ [] then some (.done (.ret who)) else some (.next 1) := by
    simp only [othello_mover_L1]
    rw [if_pos (by decide)]
    unfold othello_mover_J2 othello_mover_J3
    rw [asrt_pos (by decide), show geti [who, w64 (3 - who)] 0 = who from rfl, places_p B hw, Option.bind_some]
    by_cases h : plcs W H c who c.length = []
    · rw [h, if_neg (by simp), if_neg (by simp), w64_of (by omega)]; rfl
    · have := List.length_pos_iff.2 h
      rw [if_pos (decide_eq_true (by omega)), if_pos h]
  have s1 : othello_mover_L1 W H c who 1 = if plcs W H c (3 - who) c.length ≠ [] then some (.done (.ret (3 - who))) else some (.next 2) := by
    simp only [othello_mover_L1]
    rw [if_pos (by decide)]
    unfold othello_mover_J2 othello_mover_J3
    rw [asrt_pos (by decide), show geti [who, w64 (3 - who)] 1 = w64 (3 - who) from rfl, w64_of (x := 3 - who) (by omega), places_p B (who := 3 - who) (by omega), Option.bind_some]
    by_cases h : plcs W H c (3 - who) c.length = []
    · rw [h, if_neg (by simp), if_neg (by simp), w64_of (by omega)]; rfl
    · have := List.length_pos_iff.2 h
      rw [if_pos (decide_eq_true (by omega)), if_pos h]
  have s2 : othello_mover_L1 W H c who 2 = some (.done (.go ())) := by
    simp only [othello_mover_L1]
    rw [if_neg (by decide)]
  by_cases h0 : plcs W H c who c.length ≠ []
  · rw [if_pos h0] at s0 ⊢
    rw [loop_done s0]; rfl
  · rw [if_neg h0] at s0 ⊢
    by_cases h1 : plcs W H c (3 - who) c.length ≠ []
    · rw [if_pos h1] at s1 ⊢
      rw [loop_next' s0 (loop_done s1)]; rfl
    · rw [if_neg h1] at s1 ⊢
      rw [loop_next' s0 (loop_next' s1 (loop_done s2))]; rfl

theorem count_both (W H : Int) : ∀ (n : Nat) (c : List Int) (who plies : Int), Dm W H c → (who = 1 ∨ who = 2) → 0 ≤ plies → plies < n → plies ≤ 6 →
    ∃ r, othello_count_mF n W H c who plies = some r ∧ gameroomref_OthelloCount_mF n W H c who plies = some r := by
  intro n
  induction n with
  | zero => intro c who plies _ _ h1 h2; omega
  | succ n ih =>
    intro c who plies B hw h1 h2 h6
    have hsm := B.small
    show ∃ r, othello_count_B (othello_count_mF n) W H c who plies = some r ∧ gameroomref_OthelloCount_B (gameroomref_OthelloCount_mF n) W H c who plies = some r
    unfold othello_count_B gameroomref_OthelloCount_B
    rw [mover_p B hw, Option.bind_some]
    by_cases h0 : plies = 0
    · rw [if_pos (by simp [h0]), if_pos (by simp [h0])]
      exact ⟨1, rfl, rfl⟩
    rw [if_neg (show ¬ (plies == 0) = true by simpa using h0)]
    -- the sum over the places of a player
    have sum : ∀ w : Int, (w = 1 ∨ w = 2) → ∃ r, othello_count_J1 (othello_count_mF n) W H c plies w = some r ∧ gameroomref_OthelloCount_J3 (gameroomref_OthelloCount_mF n) W H c plies w (plcs W H c w c.length) = some r := by
      intro w hw'
      unfold othello_count_J1 gameroomref_OthelloCount_J3
      rw [places_p B hw', Option.bind_some]
      have key := count_loop2' (step1 := othello_count_L1 (othello_count_mF n) W H c plies w (plcs W H c w c.length)) (step2 := gameroomref_OthelloCount_L1 (gameroomref_OthelloCount_mF n) W H c plies w (plcs W H c w c.length))
        (fun (s : Int) (i : Nat) => (s, (i : Int))) (fun s i => (s, (i : Int))) (fun _ _ => True) (fun r1 r2 => r1 = r2) (plcs W H c w c.length).length 0 trivial (by
          intro i s hi _
          have hg := get_geti hi
          obtain ⟨hb, hm⟩ := plcs_mem (List.mem_of_getElem? hg)
          have hl := plcs_len (W := W) (H := H) (c := c) (who := w) c.length
          obtain ⟨m, hr⟩ := put_r B hw' hb hm
          obtain ⟨v, v1, v2⟩ := ih (putB W H c w (geti (plcs W H c w c.length) i)) (3 - w) (plies - 1) (B.of_len putB_len) (by omega) (by omega) (by omega) (by omega)
          refine ⟨w64 (s + v), ?_, ?_, trivial⟩
          · have e1 : othello_count_L1 (othello_count_mF n) W H c plies w (plcs W H c w c.length) (s, (i : Int)) = othello_count_J3 (othello_count_mF n) W H c plies w (plcs W H c w c.length) s i := if_pos (decide_eq_true (by omega))
            rw [e1]
            unfold othello_count_J3 othello_count_J4
            rw [asrt_pos (by omega), put_p B hw' hb hm, Option.bind_some]
            simp only
            rw [w64_of (x := 3 - w) (by omega), w64_of (x := plies - 1) (by omega), v1, Option.bind_some, w64_of (x := (i : Int) + 1) (by omega)]
            rfl
          · have e2 : gameroomref_OthelloCount_L1 (gameroomref_OthelloCount_mF n) W H c plies w (plcs W H c w c.length) (s, (i : Int)) = gameroomref_OthelloCount_J5 (gameroomref_OthelloCount_mF n) W H c plies w (plcs W H c w c.length) s i := if_pos (decide_eq_true (by omega))
            rw [e2]
            unfold gameroomref_OthelloCount_J5 gameroomref_OthelloCount_J7 gameroomref_OthelloCount_J6
            rw [asrt_pos (by omega), hr, Option.bind_some]
            simp only
            rw [w64_of (x := 3 - w) (by omega), w64_of (x := plies - 1) (by omega), v2, Option.bind_some, w64_of (x := (i : Int) + 1) (by omega)]
            rfl) (by
          intro s _
          exact ⟨s, s, by simp only [othello_count_L1]; rw [if_neg (by simp)], by simp only [gameroomref_OthelloCount_L1]; rw [if_neg (by simp)], rfl⟩)
      obtain ⟨r1, r2, k1, k2, rfl⟩ := key
      have k1' : loop (othello_count_L1 (othello_count_mF n) W H c plies w (plcs W H c w c.length)) (0, 0) = some r1 := k1
      have k2' : loop (gameroomref_OthelloCount_L1 (gameroomref_OthelloCount_mF n) W H c plies w (plcs W H c w c.length)) (0, 0) = some r1 := k2
      rw [k1', k2']
      exact ⟨r1, rfl, rfl⟩
    unfold gameroomref_OthelloCount_J1
    rw [places_r B hw, Option.bind_some]
    by_cases q0 : plcs W H c who c.length = []
    · have z0 : (((plcs W H c who c.length).length : Int) == 0) = true := by rw [q0]; rfl
      rw [if_pos z0, w64_of (x := 3 - who) (by omega), places_r B (who := 3 - who) (by omega), Option.bind_some]
      unfold gameroomref_OthelloCount_J2
      by_cases q1 : plcs W H c (3 - who) c.length = []
      · have z1 : (((plcs W H c (3 - who) c.length).length : Int) == 0) = true := by rw [q1]; rfl
        have hn : nextW W H c who = 0 := by
          unfold nextW
          rw [if_neg (fun h => h q0), if_neg (fun h => h q1)]
        rw [hn, if_pos z1, if_pos (by simp)]
        exact ⟨1, rfl, rfl⟩
      · have hpos := List.length_pos_iff.2 q1
        have hn : nextW W H c who = 3 - who := by
          unfold nextW
          rw [if_neg (fun h => h q0), if_pos q1]
        rw [hn, if_neg (by rw [Bool.or_eq_true, beq_iff_eq, beq_iff_eq]; omega), if_neg (by rw [beq_iff_eq]; omega)]
        exact sum (3 - who) (by omega)
    · have hpos := List.length_pos_iff.2 q0
      have hn : nextW W H c who = who := by
        unfold nextW
        rw [if_pos q0]
      rw [hn, if_neg (by rw [Bool.or_eq_true, beq_iff_eq, beq_iff_eq]; omega), if_neg (by rw [beq_iff_eq]; omega)]
      unfold gameroomref_OthelloCount_J2
      rw [if_neg (by rw [beq_iff_eq]; omega)]
      exact sum who hw
end
end Go.Proofs.Ytbmhcapeikebgaa
