/-
  FourBests: the search within bounds.
-/
import Derived.Test.YtogecbgngnjhgaaPFc
import Derived.Test.YtogecbgngnjhgaaLibT
namespace Go.Proofs.Ytogecbgngnjhgaa
open Go Go.GL

/-- What an answer within bounds says of the value. -/
def AB (v V low high : Int) : Prop := (V ≤ low → v ≤ low) ∧ (low < V → V < high → v = V) ∧ (high ≤ V → high ≤ v)

/-- How two searches stand after some columns. -/
def Pl (b x R K : Int) : Prop := (x = -1 ∧ b = -1000 ∧ K = -1 ∧ R = -1000) ∨ (0 ≤ x ∧ (-100 ≤ b ∧ b ≤ 100) ∧ 0 ≤ K ∧ (-100 ≤ R ∧ R ≤ 100))

open Classical in
theorem seek_both (W H k m : Int) : ∀ (n : Nat) (c : List Int) (who ply deep low high : Int), Bd W H c k → (who = 1 ∨ who = 2) → 0 ≤ ply → ply ≤ deep → deep ≤ 6 → deep - ply < n → -1000 ≤ low → low < high → high ≤ 1000 → NW W H c k →
    ∃ v w V U, four_well_seek_mF n W H c k m who ply deep low high = some (v, w, c) ∧ gameroomref_BestDrop_mF n W H c k deep who ply = some (V, U) ∧ AB v V low high ∧ (-100 ≤ v ∧ v ≤ 100) ∧ (-100 ≤ V ∧ V ≤ 100) ∧ (low = -1000 → high = 1000 → w = U) := by
  intro n
  induction n with
  | zero => intro c who ply deep low high _ _ h1 h2 h3 h4; omega
  | succ n ih =>
    intro c who ply deep low high B hw hp0 hpd hd6 hn hlow hlh hhigh hNW
    have hW := B.w
    have hH := B.h
    have hsm := B.small
    show ∃ v w V U, four_well_seek_B (four_well_seek_mF n) W H c k m who ply deep low high = some (v, w, c) ∧ gameroomref_BestDrop_B (gameroomref_BestDrop_mF n) W H c k deep who ply = some (V, U) ∧ _
    unfold four_well_seek_B gameroomref_BestDrop_B
    rw [WonOf_eq B, Option.bind_some, wonN_nw hNW]
    simp only
    rw [if_neg (show ¬ ((0 : Int) == who) = true by simp; omega)]
    unfold gameroomref_BestDrop_J1
    simp only
    rw [if_neg (show ¬ (decide ((0 : Int) < 0)) = true by decide)]
    unfold gameroomref_BestDrop_J2
    by_cases hs : ply = deep
    · have e : (ply == deep) = true := by simpa using hs
      rw [if_pos e, if_pos e]
      exact ⟨0, -1, 0, -1, rfl, rfl, ⟨id, fun _ _ => rfl, id⟩, by omega, by omega, fun _ _ => rfl⟩
    have e : ¬ (ply == deep) = true := by simpa using hs
    rw [if_neg e, if_neg e]
    unfold four_well_seek_J1 gameroomref_BestDrop_J3
    obtain ⟨n, rfl⟩ : ∃ n', n = n' + 1 := ⟨n - 1, by omega⟩
    have child : ∀ (i : Nat), (i : Int) < W → ∀ (b x R K : Int), -1000 ≤ b ∧ b ≤ 100 → -1000 ≤ R ∧ R ≤ 100 → b < high →
        (four_well_seek_L1 (four_well_seek_mF (n + 1)) W H c k m who ply deep low high (c, b, x, (i : Int)) = some (.next (c, b, x, ((i + 1 : Nat) : Int))) ∧ gameroomref_BestDrop_L1 (gameroomref_BestDrop_mF (n + 1)) W H c k deep who ply (R, K, (i : Int)) = some (.next (R, K, ((i + 1 : Nat) : Int)))) ∨
        ∃ v V, AB v V (0 - high) (0 - maxI low b) ∧ (-100 ≤ v ∧ v ≤ 100) ∧ (-100 ≤ V ∧ V ≤ 100) ∧
          four_well_seek_L1 (four_well_seek_mF (n + 1)) W H c k m who ply deep low high (c, b, x, (i : Int)) = (if b < 0 - v then (if high ≤ 0 - v then some (.done (0 - v, (i : Int), c)) else some (.next (c, 0 - v, (i : Int), ((i + 1 : Nat) : Int)))) else some (.next (c, b, x, ((i + 1 : Nat) : Int)))) ∧
          gameroomref_BestDrop_L1 (gameroomref_BestDrop_mF (n + 1)) W H c k deep who ply (R, K, (i : Int)) = some (.next (if R < 0 - V then (0 - V, (i : Int), ((i + 1 : Nat) : Int)) else (R, K, ((i + 1 : Nat) : Int)))) := by
      intro i hi b x R K hb hR hbh
      have hmx : maxI low b = if low < b then b else low := rfl
      have hM : maxI low b < high ∧ -1000 ≤ maxI low b := by rw [hmx]; split <;> omega
      have e1 : four_well_seek_L1 (four_well_seek_mF (n + 1)) W H c k m who ply deep low high (c, b, x, (i : Int)) = four_well_seek_J3 (four_well_seek_mF (n + 1)) W H c k m who ply deep low high c b x i := if_pos (decide_eq_true (by omega))
      have e2 : gameroomref_BestDrop_L1 (gameroomref_BestDrop_mF (n + 1)) W H c k deep who ply (R, K, (i : Int)) = gameroomref_BestDrop_J5 (gameroomref_BestDrop_mF (n + 1)) W H c k deep who ply R K i := if_pos (decide_eq_true (by omega))
      rw [e1, e2]
      unfold four_well_seek_J3 gameroomref_BestDrop_J5
      rw [fall_p B.dm (by omega), fallTo_r B.dm (by omega), Option.bind_some, Option.bind_some]
      have hw1 : w64 ((i : Int) + 1) = ((i + 1 : Nat) : Int) := by rw [w64_of (by omega)]; rfl
      rcases fallN_at B.dm (c := c) (col := (i : Int)) (by omega) H.toNat (by omega) with hf | ⟨hf1, hf2, hf3⟩
      · left
        rw [hf, if_pos (by decide), if_pos (by decide)]
        unfold four_well_seek_J4 gameroomref_BestDrop_J6
        rw [hw1]
        exact ⟨rfl, rfl⟩
      · right
        generalize fallN W c (i : Int) H.toNat = q' at hf1 hf2 hf3 ⊢
        obtain ⟨q, rfl⟩ : ∃ q : Nat, q' = q := ⟨q'.toNat, by omega⟩
        have hq : q < c.length := by omega
        have B' : Bd W H (c.set q who) k := B.of_len (by simp)
        have hat : geti (c.set q who) (q : Int) = who := by rw [geti_set' (by omega) hq, if_pos rfl]
        have hback := set_back (who := who) hq hf3
        have sfin : ∀ v : Int, -100 ≤ v → v ≤ 100 → four_well_seek_J6 c high b x i (q : Int) (c.set q who) (0 - v) = (if b < 0 - v then (if high ≤ 0 - v then some (.done (0 - v, (i : Int), c)) else some (.next (c, 0 - v, (i : Int), ((i + 1 : Nat) : Int)))) else some (.next (c, b, x, ((i + 1 : Nat) : Int)))) := by
          intro v g1 g2
          unfold four_well_seek_J6 four_well_seek_J7 four_well_seek_J4
          rw [asrt_pos (by omega), Int.toNat_natCast, hback, hw1]
          simp only [decide_eq_true_eq]
          by_cases z : b < 0 - v
          · rw [if_pos z, if_pos z]
          · rw [if_neg z, if_neg z, if_neg (by omega)]
        have rfin : ∀ V U : Int, -100 ≤ V → V ≤ 100 → gameroomref_BestDrop_mF (n + 1) W H (c.set q who) k deep (3 - who) (ply + 1) = some (V, U) → gameroomref_BestDrop_J7 (gameroomref_BestDrop_mF (n + 1)) W H c k deep who ply R K i q = some (.next (if R < 0 - V then (0 - V, (i : Int), ((i + 1 : Nat) : Int)) else (R, K, ((i + 1 : Nat) : Int)))) := by
          intro V U g1 g2 g3
          unfold gameroomref_BestDrop_J7 gameroomref_BestDrop_J6
          rw [gridOf_r (by omega), Option.bind_some]
          simp only
          rw [asrt_pos (by omega), Int.toNat_natCast, w64_of (x := 3 - who) (by omega), w64_of (x := ply + 1) (by omega), g3, Option.bind_some]
          simp only
          rw [w64_of (x := 0 - V) (by omega), hw1]
          simp only [decide_eq_true_eq]
          split <;> rfl
        rw [if_neg (by simp), if_neg (by simp)]
        unfold four_well_seek_J5
        rw [asrt_pos (by omega), Int.toNat_natCast, won_p B' m (by simpa using hq) (by rw [hat]; omega), Option.bind_some]
        by_cases hin : InRow W H (c.set q who) k q
        · rw [decide_eq_true hin]
          simp only [Bool.not_true, Bool.false_eq_true, if_false]
          have hr : gameroomref_BestDrop_mF (n + 1) W H (c.set q who) k deep (3 - who) (ply + 1) = some (ply + 1 - 100, -1) := by
            show gameroomref_BestDrop_B (gameroomref_BestDrop_mF n) W H (c.set q who) k deep (3 - who) (ply + 1) = _
            unfold gameroomref_BestDrop_B
            rw [WonOf_eq B', Option.bind_some, wonN_set B hq hw hNW, if_pos hin]
            simp only
            rw [if_neg (show ¬ (who == 3 - who) = true by simp; omega)]
            unfold gameroomref_BestDrop_J1
            simp only
            rw [if_pos (decide_eq_true (by omega)), w64_of (by omega)]
          refine ⟨ply + 1 - 100, ply + 1 - 100, ⟨id, fun _ _ => rfl, id⟩, by omega, by omega, ?_, rfin _ _ (by omega) (by omega) hr⟩
          rw [w64_of (x := ply + 1) (by omega), w64_of (x := 100 - (ply + 1)) (by omega), ← sfin (ply + 1 - 100) (by omega) (by omega), show (0 : Int) - (ply + 1 - 100) = 100 - (ply + 1) by omega]
        · rw [decide_eq_false hin]
          simp only [Bool.not_false, if_true]
          obtain ⟨v, w, V, U, h1, h2, hab, hv, hV, -⟩ := ih (c.set q who) (3 - who) (ply + 1) deep (0 - high) (0 - maxI low b) B' (by omega) (by omega) (by omega) hd6 (by omega) (by omega) (by omega) (by omega) (nw_set B hq hw hNW hin)
          refine ⟨v, V, hab, hv, hV, ?_, rfin V U hV.1 hV.2 h2⟩
          rw [w64_of (x := ply + 1) (by omega), w64_of (x := 3 - who) (by omega), w64_of (x := 0 - high) (by omega), w64_of (x := 0 - maxI low b) (by omega), h1, Option.bind_some]
          simp only
          rw [w64_of (x := 0 - v) (by omega)]
          exact sfin v hv.1 hv.2
    have refL : ∀ (m' i : Nat) (R K : Int), i + m' = W.toNat → -100 ≤ R ∧ R ≤ 100 → 0 ≤ K → ∃ R' K', loop (gameroomref_BestDrop_L1 (gameroomref_BestDrop_mF (n + 1)) W H c k deep who ply) (R, K, (i : Int)) = some (R', K') ∧ R ≤ R' ∧ R' ≤ 100 ∧ 0 ≤ K' := by
      intro m'
      induction m' with
      | zero =>
        intro i R K hi hR hK
        refine ⟨R, K, loop_done ?_, by omega, by omega, hK⟩
        simp only [gameroomref_BestDrop_L1]
        rw [if_neg (by simp; omega)]
      | succ m' ihm =>
        intro i R K hi hR hK
        rcases child i (by omega) (-1000) 0 R K (by omega) (by omega) (by omega) with ⟨-, h⟩ | ⟨v, V, -, hv, hV, -, h⟩
        · obtain ⟨R', K', k1, k2⟩ := ihm (i + 1) R K (by omega) hR hK
          exact ⟨R', K', loop_next' h k1, k2⟩
        · by_cases z : R < 0 - V
          · rw [if_pos z] at h
            obtain ⟨R', K', k1, k2, k3, k4⟩ := ihm (i + 1) (0 - V) i (by omega) (by omega) (by omega)
            exact ⟨R', K', loop_next' h k1, by omega, k3, k4⟩
          · rw [if_neg z] at h
            obtain ⟨R', K', k1, k2⟩ := ihm (i + 1) R K (by omega) hR hK
            exact ⟨R', K', loop_next' h k1, k2⟩
    have both : ∀ (m' i : Nat) (b x R K : Int), i + m' = W.toNat → AB b R low high → b < high → Pl b x R K → (low = -1000 → high = 1000 → x = K) →
        ∃ b' x' R' K', loop (four_well_seek_L1 (four_well_seek_mF (n + 1)) W H c k m who ply deep low high) (c, b, x, (i : Int)) = some (b', x', c) ∧ loop (gameroomref_BestDrop_L1 (gameroomref_BestDrop_mF (n + 1)) W H c k deep who ply) (R, K, (i : Int)) = some (R', K') ∧ AB b' R' low high ∧ Pl b' x' R' K' ∧ (low = -1000 → high = 1000 → x' = K') := by
      intro m'
      induction m' with
      | zero =>
        intro i b x R K hi hab hbh hpl hfull
        refine ⟨b, x, R, K, loop_done ?_, loop_done ?_, hab, hpl, hfull⟩
        · simp only [four_well_seek_L1]
          rw [if_neg (by simp; omega)]
        · simp only [gameroomref_BestDrop_L1]
          rw [if_neg (by simp; omega)]
      | succ m' ihm =>
        intro i b x R K hi hab hbh hpl hfull
        have hmx : maxI low b = if low < b then b else low := rfl
        have hb : -1000 ≤ b ∧ b ≤ 100 := by rcases hpl with h | h <;> omega
        have hR : -1000 ≤ R ∧ R ≤ 100 := by rcases hpl with h | h <;> omega
        rcases child i (by omega) b x R K hb hR hbh with ⟨pst, hst⟩ | ⟨v, V, hcab, hv, hV, pst, hst⟩
        · obtain ⟨b', x', R', K', k1, k2, k3⟩ := ihm (i + 1) b x R K (by omega) hab hbh hpl hfull
          exact ⟨b', x', R', K', loop_next' pst k1, loop_next' hst k2, k3⟩
        rw [hmx] at hcab
        have hM : (low < b ∧ (if low < b then b else low) = b) ∨ (¬ low < b ∧ (if low < b then b else low) = low) := by
          by_cases z : low < b
          · exact Or.inl ⟨z, if_pos z⟩
          · exact Or.inr ⟨z, if_neg z⟩
        generalize (if low < b then b else low) = mx at hcab hM
        obtain ⟨c1, c2, c3⟩ := hcab
        obtain ⟨a1, a2, a3⟩ := hab
        unfold Pl at hpl ⊢
        by_cases q : b < 0 - v
        · rw [if_pos q] at pst
          by_cases q2 : high ≤ 0 - v
          · rw [if_pos q2] at pst
            have hV2 : high ≤ 0 - V := by omega
            by_cases z : R < 0 - V
            · rw [if_pos z] at hst
              obtain ⟨R', K', k1, k2, k3, k4⟩ := refL m' (i + 1) (0 - V) i (by omega) (by omega) (by omega)
              exact ⟨0 - v, i, R', K', loop_done pst, loop_next' hst k1, ⟨fun h => by omega, fun h h' => by omega, fun h => q2⟩, by omega, fun h h' => by omega⟩
            · rw [if_neg z] at hst
              obtain ⟨R', K', k1, k2, k3, k4⟩ := refL m' (i + 1) R K (by omega) (by omega) (by omega)
              exact ⟨0 - v, i, R', K', loop_done pst, loop_next' hst k1, ⟨fun h => by omega, fun h h' => by omega, fun h => q2⟩, by omega, fun h h' => by omega⟩
          · rw [if_neg q2] at pst
            by_cases z : R < 0 - V
            · rw [if_pos z] at hst
              obtain ⟨b', x', R', K', k1, k2, k3⟩ := ihm (i + 1) (0 - v) i (0 - V) i (by omega) ⟨fun h => by omega, fun h h' => by omega, fun h => by omega⟩ (by omega) (by unfold Pl; omega) (fun _ _ => rfl)
              exact ⟨b', x', R', K', loop_next' pst k1, loop_next' hst k2, k3⟩
            · rw [if_neg z] at hst
              obtain ⟨b', x', R', K', k1, k2, k3⟩ := ihm (i + 1) (0 - v) i R K (by omega) ⟨fun h => by omega, fun h h' => by omega, fun h => by omega⟩ (by omega) (by unfold Pl; omega) (fun _ _ => by exfalso; omega)
              exact ⟨b', x', R', K', loop_next' pst k1, loop_next' hst k2, k3⟩
        · rw [if_neg q] at pst
          by_cases z : R < 0 - V
          · rw [if_pos z] at hst
            obtain ⟨b', x', R', K', k1, k2, k3⟩ := ihm (i + 1) b x (0 - V) i (by omega) ⟨fun h => by omega, fun h h' => by omega, fun h => by omega⟩ hbh (by unfold Pl; omega) (fun _ _ => by exfalso; omega)
            exact ⟨b', x', R', K', loop_next' pst k1, loop_next' hst k2, k3⟩
          · rw [if_neg z] at hst
            obtain ⟨b', x', R', K', k1, k2, k3⟩ := ihm (i + 1) b x R K (by omega) ⟨a1, a2, a3⟩ hbh hpl hfull
            exact ⟨b', x', R', K', loop_next' pst k1, loop_next' hst k2, k3⟩
    obtain ⟨b', x', R', K', k1, k2, k3, k4, k5⟩ := both W.toNat 0 (-1000) (-1) (-1000) (-1) (by omega) ⟨fun _ => hlow, fun h _ => by omega, fun h => by omega⟩ (by omega) (Or.inl ⟨rfl, rfl, rfl, rfl⟩) (fun _ _ => rfl)
    have k1' : loop (four_well_seek_L1 (four_well_seek_mF (n + 1)) W H c k m who ply deep low high) (c, -1000, -1, 0) = some (b', x', c) := k1
    have k2' : loop (gameroomref_BestDrop_L1 (gameroomref_BestDrop_mF (n + 1)) W H c k deep who ply) (-1000, -1, 0) = some (R', K') := k2
    rw [k1', k2', Option.bind_some, Option.bind_some]
    simp only [four_well_seek_K1, gameroomref_BestDrop_K1, four_well_seek_J2, gameroomref_BestDrop_J4, four_well_seek_J8, gameroomref_BestDrop_J8, decide_eq_true_eq]
    rcases k4 with ⟨h1, h2, h3, h4⟩ | ⟨h1, h2, h3, h4⟩
    · rw [if_pos (by omega), if_pos (by omega)]
      exact ⟨0, -1, 0, -1, rfl, rfl, ⟨id, fun _ _ => rfl, id⟩, by omega, by omega, fun _ _ => rfl⟩
    · rw [if_neg (by omega), if_neg (by omega)]
      exact ⟨b', x', R', K', rfl, rfl, k3, h2, h4, k5⟩
end Go.Proofs.Ytogecbgngnjhgaa
