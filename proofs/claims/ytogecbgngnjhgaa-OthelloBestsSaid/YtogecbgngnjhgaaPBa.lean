/-
  OthelloBests: the search within bounds.
-/
import Derived.Test.YtogecbgngnjhgaaPOc
import Derived.Test.YtogecbgngnjhgaaLibT
namespace Go.Proofs.Ytogecbgngnjhgaa
open Go Go.GL

section
variable {W H : Int} {c : List Int} {who : Int}

noncomputable def nextW (W H : Int) (c : List Int) (who : Int) : Int := if plcs W H c who c.length ≠ [] then who else if plcs W H c (3 - who) c.length ≠ [] then 3 - who else 0

theorem mover_p (B : Dm W H c) (hw : who = 1 ∨ who = 2) : othello_mover_m W H c who = some (nextW W H c who) := by
  unfold othello_mover_m nextW
  have s0 : othello_mover_L1 W H c who 0 = if plcs W H c who c.length ≠ [] then some (.done (.ret who)) else some (.next 1) := by
    simp only [othello_mover_L1]
    rw [if_pos (by decide)]
    unfold othello_mover_J2 othello_mover_J3
    rw [asrt_pos (by decide), show geti [who, w64 (3 - who)] 0 = who from rfl, places_p B hw, Option.bind_some]
    by_cases h : plcs W H c who c.length = []
    · rw [h, if_neg (by simp), if_neg (by simp), w64_of (by omega)]; rfl
    · have := List.length_pos_iff.2 h
      rw [if_pos (decide_eq_true (by omega)), if_pos h]
  have s1 : othello_mover_L1 W H c who 1 = if plcs W H c (3 - who) c.length ≠ [] then some (.done (.ret (3 - who))) else some (.next 2) := by
    simp only [othello_mover_L1]
    rw [if_pos (by decide)]
    unfold othello_mover_J2 othello_mover_J3
    rw [asrt_pos (by decide), show geti [who, w64 (3 - who)] 1 = w64 (3 - who) from rfl, w64_of (x := 3 - who) (by omega), places_p B (who := 3 - who) (by omega), Option.bind_some]
    by_cases h : plcs W H c (3 - who) c.length = []
    · rw [h, if_neg (by simp), if_neg (by simp), w64_of (by omega)]; rfl
    · have := List.length_pos_iff.2 h
      rw [if_pos (decide_eq_true (by omega)), if_pos h]
  have s2 : othello_mover_L1 W H c who 2 = some (.done (.go ())) := by
    simp only [othello_mover_L1]
    rw [if_neg (by decide)]
  by_cases h0 : plcs W H c who c.length ≠ []
  · rw [if_pos h0] at s0 ⊢
    rw [loop_done s0]; rfl
  · rw [if_neg h0] at s0 ⊢
    by_cases h1 : plcs W H c (3 - who) c.length ≠ []
    · rw [if_pos h1] at s1 ⊢
      rw [loop_next' s0 (loop_done s1)]; rfl
    · rw [if_neg h1] at s1 ⊢
      rw [loop_next' s0 (loop_next' s1 (loop_done s2))]; rfl


theorem lead_both (B : Dm W H c) (hw : who = 1 ∨ who = 2) : ∃ v, othello_lead_m W H c who = some v ∧ (loop (gameroomref_OthelloBest_L1 c who) (0, 0)).bind gameroomref_OthelloBest_K1 = some (v, -1) ∧ -300 ≤ v ∧ v ≤ 300 := by
  have hsm := B.small
  have key := count_loop2' (step1 := othello_lead_L1 c who) (step2 := gameroomref_OthelloBest_L1 c who) (fun (s : Int) (i : Nat) => (s, (i : Int))) (fun s i => (s, (i : Int))) (fun i s => -(i : Int) ≤ s ∧ s ≤ i) (fun r1 r2 => r1 = r2 ∧ -300 ≤ r1 ∧ r1 ≤ 300) c.length 0 ⟨by simp, by simp⟩ (by
    intro i s hi hI
    have e1 : othello_lead_L1 c who (s, (i : Int)) = othello_lead_J2 c who s i := if_pos (decide_eq_true (by omega))
    have e2 : gameroomref_OthelloBest_L1 c who (s, (i : Int)) = gameroomref_OthelloBest_J4 c who s i := if_pos (decide_eq_true (by omega))
    refine ⟨if geti c i = who then s + 1 else if geti c i = 3 - who then s - 1 else s, ?_, ?_, ?_⟩
    · rw [e1]
      unfold othello_lead_J2 othello_lead_J3
      rw [asrt_pos (by omega), w64_of (x := 3 - who) (by omega), w64_of (x := (i : Int) + 1) (by omega), w64_of (x := s + 1) (by omega), w64_of (x := s - 1) (by omega)]
      simp only [beq_iff_eq]
      split
      · rfl
      · split <;> rfl
    · rw [e2]
      unfold gameroomref_OthelloBest_J4 gameroomref_OthelloBest_J6 gameroomref_OthelloBest_J5
      rw [asrt_pos (by omega), asrt_pos (by omega), asrt_pos (by omega), w64_of (x := 3 - who) (by omega), w64_of (x := (i : Int) + 1) (by omega), w64_of (x := s + 1) (by omega), w64_of (x := s - 1) (by omega)]
      simp only [beq_iff_eq]
      by_cases h1 : geti c i = who
      · rw [if_pos h1, if_neg (by omega), if_pos h1]; rfl
      · rw [if_neg h1, if_neg h1]
        split <;> rfl
    · split
      · omega
      · split <;> omega) (by
    intro s hI
    exact ⟨s, s, by simp only [othello_lead_L1]; rw [if_neg (by simp)], by simp only [gameroomref_OthelloBest_L1]; rw [if_neg (by simp)], rfl, by omega, by omega⟩)
  obtain ⟨r1, r2, k1, k2, rfl, k3, k4⟩ := key
  have k1' : loop (othello_lead_L1 c who) (0, 0) = some r1 := k1
  have k2' : loop (gameroomref_OthelloBest_L1 c who) (0, 0) = some r1 := k2
  unfold othello_lead_m
  rw [k1', k2']
  exact ⟨r1, rfl, rfl, k3, k4⟩

/-- What an answer within bounds says of the value. -/
def AB (v V low high : Int) : Prop := (V ≤ low → v ≤ low) ∧ (low < V → V < high → v = V) ∧ (high ≤ V → high ≤ v)
end

open Classical in
noncomputable def skip01 (W H : Int) (c : List Int) (who : Int) : Int := if nextW W H c who = who then 0 else 1

theorem seek_both (W H : Int) : ∀ (n : Nat) (c : List Int) (who deep low high : Int), Dm W H c → (who = 1 ∨ who = 2) → 0 ≤ deep → deep ≤ 6 → 2 * deep + skip01 W H c who < n → -1000 ≤ low → low < high → high ≤ 1000 →
    ∃ v w V U, othello_seek_mF n W H c who deep low high = some (v, w) ∧ gameroomref_OthelloBest_mF n W H c who deep = some (V, U) ∧ AB v V low high ∧ (-300 ≤ v ∧ v ≤ 300) ∧ (-300 ≤ V ∧ V ≤ 300) ∧ (low = -1000 → high = 1000 → w = U) := by
  intro n
  induction n with
  | zero => intro c who deep low high _ _ h1 h2 h3; unfold skip01 at h3; split at h3 <;> omega
  | succ n ih =>
    intro c who deep low high B hw hd0 hd6 hn hlow hlh hhigh
    have hsm := B.small
    show ∃ v w V U, othello_seek_B (othello_seek_mF n) W H c who deep low high = some (v, w) ∧ gameroomref_OthelloBest_B (gameroomref_OthelloBest_mF n) W H c who deep = some (V, U) ∧ _
    unfold othello_seek_B gameroomref_OthelloBest_B
    rw [mover_p B hw, Option.bind_some, places_r B hw, Option.bind_some, w64_of (x := 3 - who) (by omega), places_r B (who := 3 - who) (by omega), Option.bind_some]
    unfold gameroomref_OthelloBest_J1
    obtain ⟨L, l1, l2, l3⟩ := lead_both B hw
    have stop : (deep == 0 || nextW W H c who == 0) = (deep == 0 || (((plcs W H c who c.length).length : Int) == 0) && (((plcs W H c (3 - who) c.length).length : Int) == 0)) := by
      congr 1
      unfold nextW
      by_cases q0 : plcs W H c who c.length = []
      · rw [if_neg (fun h => h q0), q0]
        by_cases q1 : plcs W H c (3 - who) c.length = []
        · rw [if_neg (fun h => h q1), q1]; rfl
        · have := List.length_pos_iff.2 q1
          rw [if_pos q1, Bool.eq_iff_iff]
          simp only [beq_iff_eq, Bool.and_eq_true]
          constructor
          · intro h; omega
          · rintro ⟨-, h⟩; omega
      · have := List.length_pos_iff.2 q0
        rw [if_pos q0, Bool.eq_iff_iff]
        simp only [beq_iff_eq, Bool.and_eq_true]
        constructor
        · intro h; omega
        · rintro ⟨h, -⟩; omega
    rw [stop]
    by_cases hs : (deep == 0 || (((plcs W H c who c.length).length : Int) == 0) && (((plcs W H c (3 - who) c.length).length : Int) == 0)) = true
    · rw [if_pos hs, if_pos hs, l1, Option.bind_some, l2]
      exact ⟨L, -1, L, -1, rfl, rfl, ⟨id, fun _ _ => rfl, id⟩, l3, l3, fun _ _ => rfl⟩
    rw [if_neg hs, if_neg hs]
    simp only [Bool.or_eq_true, Bool.and_eq_true, beq_iff_eq, not_or] at hs
    unfold othello_seek_J1 gameroomref_OthelloBest_J2
    by_cases q0 : plcs W H c who c.length = []
    · have q1 : plcs W H c (3 - who) c.length ≠ [] := by
        intro h
        exact hs.2 ⟨by rw [q0]; rfl, by rw [h]; rfl⟩
      have hnx : nextW W H c who = 3 - who := by
        unfold nextW
        rw [if_neg (fun h => h q0), if_pos q1]
      have hnx2 : nextW W H c (3 - who) = 3 - who := by
        unfold nextW
        rw [if_pos q1]
      have sk1 : skip01 W H c who = 1 := by unfold skip01; rw [if_neg (by omega)]
      have sk2 : skip01 W H c (3 - who) = 0 := by unfold skip01; rw [if_pos hnx2]
      rw [hnx, if_pos (by simp; omega), if_pos (by rw [q0]; rfl), w64_of (x := 0 - high) (by omega), w64_of (x := 0 - low) (by omega), w64_of (x := 3 - who) (by omega)]
      obtain ⟨v, w, V, U, r1, r2, hab, hv, hV, _⟩ := ih c (3 - who) deep (0 - high) (0 - low) B (by omega) hd0 hd6 (by omega) (by omega) (by omega) (by omega)
      rw [r1, r2, Option.bind_some, Option.bind_some]
      simp only
      rw [w64_of (x := 0 - v) (by omega), w64_of (x := 0 - V) (by omega)]
      refine ⟨_, _, _, _, rfl, rfl, ?_, by omega, by omega, fun _ _ => rfl⟩
      obtain ⟨a1, a2, a3⟩ := hab
      refine ⟨fun h => ?_, fun h h' => ?_, fun h => ?_⟩
      · have := a3 (by omega); omega
      · have := a2 (by omega) (by omega); omega
      · have := a1 (by omega); omega
    · have hpos := List.length_pos_iff.2 q0
      have hnx : nextW W H c who = who := by
        unfold nextW
        rw [if_pos q0]
      rw [hnx, if_neg (by simp), if_neg (by rw [beq_iff_eq]; omega)]
      unfold othello_seek_J2 gameroomref_OthelloBest_J7
      rw [places_p B hw, Option.bind_some]
      generalize hP : plcs W H c who c.length = P at *
      have hPl : P.length ≤ 300 := by
        have := plcs_len (W := W) (H := H) (c := c) (who := who) c.length
        rw [hP] at this
        omega
      -- a child
      have child : ∀ (i : Nat), i < P.length → ∀ lo hi : Int, -1000 ≤ lo → lo < hi → hi ≤ 1000 → ∃ v w V U m, othello_put_m W H c who (geti P i) = some (W, H, putB W H c who (geti P i)) ∧ gameroomref_PutSign_m W H c who (geti P i) = some (W, H, putB W H c who (geti P i), m) ∧
          othello_seek_mF n W H (putB W H c who (geti P i)) (3 - who) (deep - 1) lo hi = some (v, w) ∧ gameroomref_OthelloBest_mF n W H (putB W H c who (geti P i)) (3 - who) (deep - 1) = some (V, U) ∧ AB v V lo hi ∧ (-300 ≤ v ∧ v ≤ 300) ∧ (-300 ≤ V ∧ V ≤ 300) := by
        intro i hi lo hi' g1 g2 g3
        have hg := get_geti hi
        rw [← hP] at hg
        obtain ⟨hb, hm⟩ := plcs_mem (List.mem_of_getElem? hg)
        rw [hP] at hb hm
        obtain ⟨m, hr⟩ := put_r B hw hb hm
        have sk : skip01 W H (putB W H c who (geti P i)) (3 - who) ≤ 1 := by unfold skip01; split <;> omega
        have sk0 : 0 ≤ skip01 W H c who := by unfold skip01; split <;> omega
        obtain ⟨v, w, V, U, r1, r2, hab, hv, hV, _⟩ := ih (putB W H c who (geti P i)) (3 - who) (deep - 1) lo hi' (B.of_len putB_len) (by omega) (by omega) (by omega) (by omega) g1 g2 g3
        exact ⟨v, w, V, U, m, put_p B hw hb hm, hr, r1, r2, hab, hv, hV⟩
      -- the reference's step
      have rstep : ∀ (i : Nat) (V U R K m : Int), i < P.length → -1000 ≤ R ∧ R ≤ 300 → -300 ≤ V ∧ V ≤ 300 → gameroomref_PutSign_m W H c who (geti P i) = some (W, H, putB W H c who (geti P i), m) → gameroomref_OthelloBest_mF n W H (putB W H c who (geti P i)) (3 - who) (deep - 1) = some (V, U) →
          gameroomref_OthelloBest_L2 (gameroomref_OthelloBest_mF n) W H c who deep P (R, K, (i : Int)) = some (.next (if R < 0 - V then (0 - V, geti P i, ((i + 1 : Nat) : Int)) else (R, K, ((i + 1 : Nat) : Int)))) := by
        intro i V U R K m hi hR hV h1 h2
        have e2 : gameroomref_OthelloBest_L2 (gameroomref_OthelloBest_mF n) W H c who deep P (R, K, (i : Int)) = gameroomref_OthelloBest_J9 (gameroomref_OthelloBest_mF n) W H c who deep P R K i := if_pos (decide_eq_true (by omega))
        rw [e2]
        unfold gameroomref_OthelloBest_J9 gameroomref_OthelloBest_J11 gameroomref_OthelloBest_J10
        rw [asrt_pos (by omega), h1, Option.bind_some]
        simp only
        rw [w64_of (x := 3 - who) (by omega), w64_of (x := deep - 1) (by omega), h2, Option.bind_some]
        simp only
        rw [w64_of (x := 0 - V) (by omega), w64_of (x := (i : Int) + 1) (by omega), asrt_pos (by omega)]
        by_cases q : R < 0 - V
        · rw [if_pos (decide_eq_true q), if_pos q]; rfl
        · rw [if_neg (by simpa using q), if_neg q]; rfl
      -- the reference goes on upwards
      have refL : ∀ (m i : Nat) (R K : Int), i + m = P.length → -1000 ≤ R ∧ R ≤ 300 → ∃ R' K', loop (gameroomref_OthelloBest_L2 (gameroomref_OthelloBest_mF n) W H c who deep P) (R, K, (i : Int)) = some (R', K') ∧ R ≤ R' ∧ R' ≤ 300 := by
        intro m
        induction m with
        | zero =>
          intro i R K hi hR
          refine ⟨R, K, loop_done ?_, by omega, by omega⟩
          simp only [gameroomref_OthelloBest_L2]
          rw [if_neg (by simp; omega)]
        | succ m ihm =>
          intro i R K hi hR
          obtain ⟨v, w, V, U, m', _, h2, _, h4, _, _, hV⟩ := child i (by omega) (-1000) 1000 (by omega) (by omega) (by omega)
          have hst := rstep i V U R K m' (by omega) hR hV h2 h4
          by_cases q : R < 0 - V
          · rw [if_pos q] at hst
            obtain ⟨R', K', k1, k2, k3⟩ := ihm (i + 1) (0 - V) (geti P i) (by omega) (by omega)
            exact ⟨R', K', loop_next' hst k1, by omega, k3⟩
          · rw [if_neg q] at hst
            obtain ⟨R', K', k1, k2, k3⟩ := ihm (i + 1) R K (by omega) hR
            exact ⟨R', K', loop_next' hst k1, by omega, k3⟩
      have both : ∀ (m i : Nat) (b x R K : Int), i + m = P.length → AB b R low high → b < high → (-1000 ≤ b ∧ b ≤ 300) → (-1000 ≤ R ∧ R ≤ 300) → (0 < i → -300 ≤ b ∧ -300 ≤ R) → (low = -1000 → high = 1000 → x = K) →
          ∃ b' x' R' K', loop (othello_seek_L1 (othello_seek_mF n) W H c who deep low high P) (b, x, (i : Int)) = some (b', x') ∧ loop (gameroomref_OthelloBest_L2 (gameroomref_OthelloBest_mF n) W H c who deep P) (R, K, (i : Int)) = some (R', K') ∧ AB b' R' low high ∧ (-300 ≤ b' ∧ b' ≤ 300) ∧ (-300 ≤ R' ∧ R' ≤ 300) ∧ (low = -1000 → high = 1000 → x' = K') := by
        intro m
        induction m with
        | zero =>
          intro i b x R K hi hab hbh hb hR hpos' hfull
          have h3 := hpos' (by omega)
          refine ⟨b, x, R, K, loop_done ?_, loop_done ?_, hab, by omega, by omega, hfull⟩
          · simp only [othello_seek_L1]
            rw [if_neg (by simp; omega)]
          · simp only [gameroomref_OthelloBest_L2]
            rw [if_neg (by simp; omega)]
        | succ m ihm =>
          intro i b x R K hi hab hbh hb hR hpos' hfull
          have hmx : maxI low b = if low < b then b else low := rfl
          obtain ⟨v, w, V, U, m', h1, h2, h3, h4, hcab, hv, hV⟩ := child i (by omega) (0 - high) (0 - maxI low b) (by omega) (by rw [hmx]; split <;> omega) (by rw [hmx]; split <;> omega)
          have hst := rstep i V U R K m' (by omega) hR hV h2 h4
          have pst : othello_seek_L1 (othello_seek_mF n) W H c who deep low high P (b, x, (i : Int)) = if b < 0 - v then (if high ≤ 0 - v then some (.done (0 - v, geti P i)) else some (.next (0 - v, geti P i, ((i + 1 : Nat) : Int)))) else some (.next (b, x, ((i + 1 : Nat) : Int))) := by
            have e1 : othello_seek_L1 (othello_seek_mF n) W H c who deep low high P (b, x, (i : Int)) = othello_seek_J4 (othello_seek_mF n) W H c who deep low high P b x i := if_pos (decide_eq_true (by omega))
            rw [e1]
            unfold othello_seek_J4 othello_seek_J6 othello_seek_J5
            rw [asrt_pos (by omega), h1, Option.bind_some]
            simp only
            rw [w64_of (x := 3 - who) (by omega), w64_of (x := deep - 1) (by omega), w64_of (x := 0 - high) (by omega), w64_of (x := 0 - maxI low b) (by rw [hmx]; split <;> omega), h3, Option.bind_some]
            simp only
            rw [w64_of (x := 0 - v) (by omega), w64_of (x := (i : Int) + 1) (by omega)]
            simp only [decide_eq_true_eq]
            by_cases q : b < 0 - v
            · rw [if_pos q, if_pos q]; rfl
            · rw [if_neg q, if_neg q, if_neg (by omega)]; rfl
          rw [hmx] at hcab
          have hM : (low < b ∧ (if low < b then b else low) = b) ∨ (¬ low < b ∧ (if low < b then b else low) = low) := by
            by_cases z : low < b
            · exact Or.inl ⟨z, if_pos z⟩
            · exact Or.inr ⟨z, if_neg z⟩
          generalize (if low < b then b else low) = mx at hcab hM
          obtain ⟨c1, c2, c3⟩ := hcab
          obtain ⟨a1, a2, a3⟩ := hab
          by_cases q : b < 0 - v
          · rw [if_pos q] at pst
            by_cases q2 : high ≤ 0 - v
            · rw [if_pos q2] at pst
              have hV2 : high ≤ 0 - V := by omega
              by_cases z : R < 0 - V
              · rw [if_pos z] at hst
                obtain ⟨R', K', k1, k2, k3⟩ := refL m (i + 1) (0 - V) (geti P i) (by omega) (by omega)
                exact ⟨0 - v, geti P i, R', K', loop_done pst, loop_next' hst k1, ⟨fun h => by omega, fun h h' => by omega, fun h => q2⟩, by omega, by omega, fun h h' => by omega⟩
              · rw [if_neg z] at hst
                obtain ⟨R', K', k1, k2, k3⟩ := refL m (i + 1) R K (by omega) hR
                exact ⟨0 - v, geti P i, R', K', loop_done pst, loop_next' hst k1, ⟨fun h => by omega, fun h h' => by omega, fun h => q2⟩, by omega, by omega, fun h h' => by omega⟩
            · rw [if_neg q2] at pst
              by_cases z : R < 0 - V
              · rw [if_pos z] at hst
                obtain ⟨b', x', R', K', k1, k2, k3⟩ := ihm (i + 1) (0 - v) (geti P i) (0 - V) (geti P i) (by omega) ⟨fun h => by omega, fun h h' => by omega, fun h => by omega⟩ (by omega) (by omega) (by omega) (fun _ => by omega) (fun _ _ => rfl)
                exact ⟨b', x', R', K', loop_next' pst k1, loop_next' hst k2, k3⟩
              · rw [if_neg z] at hst
                obtain ⟨b', x', R', K', k1, k2, k3⟩ := ihm (i + 1) (0 - v) (geti P i) R K (by omega) ⟨fun h => by omega, fun h h' => by omega, fun h => by omega⟩ (by omega) (by omega) hR (fun _ => by omega) (fun _ _ => by exfalso; omega)
                exact ⟨b', x', R', K', loop_next' pst k1, loop_next' hst k2, k3⟩
          · rw [if_neg q] at pst
            by_cases z : R < 0 - V
            · rw [if_pos z] at hst
              obtain ⟨b', x', R', K', k1, k2, k3⟩ := ihm (i + 1) b x (0 - V) (geti P i) (by omega) ⟨fun h => by omega, fun h h' => by omega, fun h => by omega⟩ hbh hb (by omega) (fun _ => by omega) (fun _ _ => by exfalso; omega)
              exact ⟨b', x', R', K', loop_next' pst k1, loop_next' hst k2, k3⟩
            · rw [if_neg z] at hst
              obtain ⟨b', x', R', K', k1, k2, k3⟩ := ihm (i + 1) b x R K (by omega) ⟨a1, a2, a3⟩ hbh hb hR (fun _ => by omega) hfull
              exact ⟨b', x', R', K', loop_next' pst k1, loop_next' hst k2, k3⟩
      obtain ⟨b', x', R', K', k1, k2, k3, k4, k5, k6⟩ := both P.length 0 (-1000) (-1) (-1000) (-1) (by omega) ⟨fun _ => hlow, fun h _ => by omega, fun h => by omega⟩ (by omega) (by omega) (by omega) (fun h => by omega) (fun _ _ => rfl)
      have k1' : loop (othello_seek_L1 (othello_seek_mF n) W H c who deep low high P) (-1000, -1, 0) = some (b', x') := k1
      have k2' : loop (gameroomref_OthelloBest_L2 (gameroomref_OthelloBest_mF n) W H c who deep P) (-1000, -1, 0) = some (R', K') := k2
      rw [k1', k2']
      exact ⟨b', x', R', K', rfl, rfl, k3, k4, k5, k6⟩
end Go.Proofs.Ytogecbgngnjhgaa
