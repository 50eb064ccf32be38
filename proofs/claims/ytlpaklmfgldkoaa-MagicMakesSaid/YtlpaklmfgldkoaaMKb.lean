/-
  Magic squares: a square's kind, as the document tells it.
-/
import Derived.Test.YtlpaklmfgldkoaaMKa
namespace Go.Proofs.Ytlpaklmfgldkoaa
open Go Go.GL
variable {l : List Int} {n : Nat}

theorem side_r (hs : Sq l n) : gameroomref_MagicSide_m l = some (n : Int) := by
  have h1 := hs.n1
  have h2 := hs.n2
  have h3 := hs.len
  have hsq : ∀ k : Nat, k ≤ n → w64 ((k : Int) * (k : Int)) = ((k * k : Nat) : Int) := fun k hk => by
    have := sq_small (n := k) (by omega)
    rw [← Int.natCast_mul]
    exact w64_of (by omega)
  unfold gameroomref_MagicSide_m
  have : loop (gameroomref_MagicSide_L1 l) 1 = some (n : Int) := by
    refine loop_from (f := fun k => ((k + 1 : Nat) : Int)) (n - 1) rfl (fun k hk => ?_) ?_
    · have hlt : (k + 1) * (k + 1) < n * n := Nat.mul_lt_mul_of_lt_of_lt (by omega) (by omega)
      simp only [gameroomref_MagicSide_L1, gameroomref_MagicSide_J2]
      rw [hsq (k + 1) (by omega), if_pos (decide_eq_true (by omega)), w64_of (by omega)]
      rfl
    · simp only [gameroomref_MagicSide_L1]
      rw [show n - 1 + 1 = n by omega, hsq n (Nat.le_refl _), if_neg (by rw [decide_eq_true_eq]; omega)]
  rw [this, Option.bind_some]
  unfold gameroomref_MagicSide_K1 gameroomref_MagicSide_J1 gameroomref_MagicSide_J3
  dsimp only
  rw [hsq n (Nat.le_refl _), if_neg (by simp [h3]; omega)]

theorem cells_r (hs : Sq l n) {k : Nat} (hk : k < n) : loop (gameroomref_MagicKind_L3 l n k) (0, 0, 0) = some (rowS l n k, colS l n k) := by
  have h2 := hs.n2
  refine loop_from (f := fun i => (sI (fun i => geti l ((k * n + i : Nat) : Int)) i, sI (fun i => geti l ((i * n + k : Nat) : Int)) i, (i : Int))) n rfl (fun i hi => ?_) ?_
  · have hb1 := sI_bd (g := fun i => geti l ((k * n + i : Nat) : Int)) (n := i) (fun j _ => hs.bd _)
    have hb2 := sI_bd (g := fun i => geti l ((i * n + k : Nat) : Int)) (n := i) (fun j _ => hs.bd _)
    have hc1 := hs.bd (k * n + i)
    have hc2 := hs.bd (i * n + k)
    simp only [gameroomref_MagicKind_L3, gameroomref_MagicKind_J8, gameroomref_MagicKind_J9]
    rw [if_pos (decide_eq_true (by omega)), place hs hk hi rfl rfl, place hs hi hk rfl rfl, asrt_pos (in_range hs hk hi), asrt_pos (in_range hs hi hk), w64_of (by omega), w64_of (by omega), w64_of (by omega)]
    rfl
  · simp only [gameroomref_MagicKind_L3]
    rw [if_neg (by simp)]
    rfl

theorem diags_r (hs : Sq l n) {k : Nat} (hk : k < n) : loop (gameroomref_MagicKind_L5 l n k) (0, 0, 0) = some (dnS l n k, upS l n k) := by
  have h1 := hs.n1
  have h2 := hs.n2
  have eU : upS l n k = sI (fun i => geti l ((i * n + (n - 1 - i + k) % n : Nat) : Int)) n := by
    unfold upS
    rw [← sI_rev]
    refine sI_congr (fun i hi => ?_)
    rw [show n - 1 - (n - 1 - i) = i by omega]
  rw [eU]
  refine loop_from (f := fun i => (sI (fun i => geti l ((i * n + (i + k) % n : Nat) : Int)) i, sI (fun i => geti l ((i * n + (n - 1 - i + k) % n : Nat) : Int)) i, (i : Int))) n rfl (fun i hi => ?_) ?_
  · have hm : (i + k) % n < n := Nat.mod_lt _ (by omega)
    have hm2 : (n - 1 - i + k) % n < n := Nat.mod_lt _ (by omega)
    have hb1 := sI_bd (g := fun i => geti l ((i * n + (i + k) % n : Nat) : Int)) (n := i) (fun j _ => hs.bd _)
    have hb2 := sI_bd (g := fun i => geti l ((i * n + (n - 1 - i + k) % n : Nat) : Int)) (n := i) (fun j _ => hs.bd _)
    have hc1 := hs.bd (i * n + (i + k) % n)
    have hc2 := hs.bd (i * n + (n - 1 - i + k) % n)
    have e : Int.tmod (w64 ((i : Int) + (k : Int))) (n : Int) = (((i + k) % n : Nat) : Int) := by
      rw [w64_of (by omega), ← Int.natCast_add, tmod_nat]
    have e2 : Int.tmod (w64 (w64 (w64 ((n : Int) - 1) - (i : Int)) + (k : Int))) (n : Int) = (((n - 1 - i + k) % n : Nat) : Int) := by
      rw [w64_of (x := (n : Int) - 1) (by omega), w64_of (x := (n : Int) - 1 - (i : Int)) (by omega), w64_of (by omega), show (n : Int) - 1 - (i : Int) + (k : Int) = ((n - 1 - i + k : Nat) : Int) by omega, tmod_nat]
    simp only [gameroomref_MagicKind_L5, gameroomref_MagicKind_J14, gameroomref_MagicKind_J15]
    rw [if_pos (decide_eq_true (by omega)), asrt_pos (by omega), e, e2, place hs hi hm rfl rfl, place hs hi hm2 rfl rfl, asrt_pos (in_range hs hi hm), asrt_pos (by omega), asrt_pos (in_range hs hi hm2), w64_of (by omega), w64_of (by omega), w64_of (by omega)]
    rfl
  · simp only [gameroomref_MagicKind_L5]
    rw [if_neg (by simp)]
    rfl

theorem kind_r (hs : Sq l n) : ∃ kd w, gameroomref_MagicKind_m l = some (kd, w) ∧ (2 ≤ kd ↔ KP l n) := by
  have h1 := hs.n1
  have h2 := hs.n2
  have h3 := hs.len
  unfold gameroomref_MagicKind_m
  rw [side_r hs, Option.bind_some]
  have hw : loop (gameroomref_MagicKind_L1 l n) (0, 0) = some (rowS l n 0) := by
    refine sum_loop (g := fun i => geti l ((0 * n + i : Nat) : Int)) hs.n2 (fun i _ => hs.bd _) (fun s i hi => ?_) (fun s => ?_)
    · have hr := in_range hs (a := 0) (b := i) (by omega) hi
      rw [show 0 * n + i = i by omega] at hr
      simp only [gameroomref_MagicKind_L1, gameroomref_MagicKind_J2, gameroomref_MagicKind_J3]
      rw [if_pos (decide_eq_true (by omega)), asrt_pos hr, show 0 * n + i = i by omega]
    · simp only [gameroomref_MagicKind_L1]
      rw [if_neg (by simp)]
  rw [hw, Option.bind_some]
  unfold gameroomref_MagicKind_K1 gameroomref_MagicKind_J1
  dsimp only
  obtain ⟨r, er, hr⟩ := count_loop (step := gameroomref_MagicKind_L2 l n (rowS l n 0)) (mk := fun (_ : Unit) k => (k : Int)) (I := fun k _ => ∀ j, j < k → rowS l n j = rowS l n 0 ∧ colS l n j = rowS l n 0)
    (Post := fun (r : Fl Unit (Int × Int)) => match r with | Fl.go _ => ∀ j, j < n → rowS l n j = rowS l n 0 ∧ colS l n j = rowS l n 0 | Fl.ret x => x = (0, 0) ∧ ¬ ∀ j, j < n → rowS l n j = rowS l n 0 ∧ colS l n j = rowS l n 0) n () (fun j hj => by omega) (fun k _ hk hI => by
      simp only [gameroomref_MagicKind_L2, gameroomref_MagicKind_J5]
      rw [if_pos (decide_eq_true (by omega)), cells_r hs hk, Option.bind_some]
      unfold gameroomref_MagicKind_K3 gameroomref_MagicKind_J7 gameroomref_MagicKind_J6
      dsimp only
      by_cases hg : rowS l n k = rowS l n 0 ∧ colS l n k = rowS l n 0
      · rw [if_neg (by simp [hg.1, hg.2]), w64_of (by omega)]
        exact .inl ⟨(), rfl, fun j hj => by
          rcases Nat.lt_or_ge j k with h | h
          · exact hI j h
          · rw [show j = k by omega]; exact hg⟩
      · rw [if_pos (by
          simp only [Bool.or_eq_true, bne_iff_ne, ne_eq]
          by_cases q : rowS l n k = rowS l n 0
          · exact .inr (fun e => hg ⟨q, e⟩)
          · exact .inl q)]
        exact .inr ⟨_, rfl, rfl, fun h => hg (h k hk)⟩) (fun _ hI => ⟨_, by
      simp only [gameroomref_MagicKind_L2]
      rw [if_neg (by simp)], hI⟩)
  have er' : loop (gameroomref_MagicKind_L2 l n (rowS l n 0)) 0 = some r := er
  rw [er', Option.bind_some]
  cases r with
  | ret x =>
    obtain ⟨rfl, hn⟩ := hr
    exact ⟨_, _, rfl, ⟨fun h => by omega, fun h => absurd (fun j hj => ⟨h.1 j hj, h.2.1 j hj⟩) hn⟩⟩
  | go _ =>
    have hr' : ∀ j, j < n → rowS l n j = rowS l n 0 ∧ colS l n j = rowS l n 0 := hr
    unfold gameroomref_MagicKind_K2 gameroomref_MagicKind_J4
    dsimp only
    rw [w64_of (by omega)]
    obtain ⟨kd, ek, hk⟩ := count_loop (step := gameroomref_MagicKind_L4 l n (rowS l n 0)) (mk := fun (kd : Int) k => (kd, (n : Int) - 1 - (k : Int))) (I := fun k kd => (k < n → kd = 2 ∨ kd = 3) ∧ (k = n → (2 ≤ kd ↔ KP l n))) (Post := fun (kd : Int) => (2 ≤ kd ↔ KP l n)) n 3 ⟨fun _ => .inr rfl, fun h => by omega⟩ (fun k kd hk hI => by
      have hkd := hI.1 hk
      have e : (n : Int) - 1 - (k : Int) = ((n - 1 - k : Nat) : Int) := by omega
      simp only [gameroomref_MagicKind_L4, gameroomref_MagicKind_J11]
      rw [if_pos (decide_eq_true (by omega)), e, diags_r hs (by omega), Option.bind_some]
      unfold gameroomref_MagicKind_K5 gameroomref_MagicKind_J13 gameroomref_MagicKind_J12
      dsimp only
      rw [w64_of (by omega), show ((n - 1 - k : Nat) : Int) - 1 = (n : Int) - 1 - ((k + 1 : Nat) : Int) by omega]
      left
      by_cases hg : dnS l n (n - 1 - k) = rowS l n 0 ∧ upS l n (n - 1 - k) = rowS l n 0
      · rw [if_neg (by simp [hg.1, hg.2])]
        refine ⟨kd, rfl, fun _ => hkd, fun h => ?_⟩
        rw [show n - 1 - k = 0 by omega] at hg
        exact ⟨fun _ => ⟨fun j hj => (hr' j hj).1, fun j hj => (hr' j hj).2, hg.1, hg.2⟩, fun _ => by omega⟩
      · rw [if_pos (by
          simp only [Bool.or_eq_true, bne_iff_ne, ne_eq]
          by_cases q : dnS l n (n - 1 - k) = rowS l n 0
          · exact .inr (fun e => hg ⟨q, e⟩)
          · exact .inl q)]
        by_cases h0 : k + 1 = n
        · rw [if_pos (by simp; omega)]
          refine ⟨1, rfl, fun h => by omega, fun _ => ?_⟩
          rw [show n - 1 - k = 0 by omega] at hg
          exact ⟨fun h => by omega, fun h => absurd ⟨h.2.2.1, h.2.2.2⟩ hg⟩
        · rw [if_neg (by simp; omega)]
          exact ⟨2, rfl, fun _ => .inl rfl, fun h => by omega⟩) (fun kd hI => ⟨kd, by
      simp only [gameroomref_MagicKind_L4]
      rw [if_neg (by simp; omega)], hI.2 rfl⟩)
    have ek' : loop (gameroomref_MagicKind_L4 l n (rowS l n 0)) (3, (n : Int) - 1) = some kd := by simpa using ek
    rw [ek']
    exact ⟨_, _, rfl, hk⟩
end Go.Proofs.Ytlpaklmfgldkoaa
