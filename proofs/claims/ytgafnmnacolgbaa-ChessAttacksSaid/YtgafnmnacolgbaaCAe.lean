/-
  ChessAttacks: material, and the law.
-/
import Derived.Test.YtgafnmnacolgbaaCAd
namespace Go.Proofs.Ytgafnmnacolgbaa
open Go Go.GL

theorem slant_all : ((List.range 64).all fun n => (bAnd (w64 ((bAnd (n : Int) 7) + (shrK .i64 (n : Int) 3))) 1 == (((n % 8 + n / 8) % 2 : Nat) : Int)) && (Int.tmod (w64 ((Int.tmod (n : Int) 8) + (w64 (Int.tdiv (n : Int) 8)))) 2 == (((n % 8 + n / 8) % 2 : Nat) : Int))) = true := by decide +kernel
theorem slant_p {n : Nat} (hn : n < 64) : bAnd (w64 ((bAnd (n : Int) 7) + (shrK .i64 (n : Int) 3))) 1 = (((n % 8 + n / 8) % 2 : Nat) : Int) ∧ Int.tmod (w64 ((Int.tmod (n : Int) 8) + (w64 (Int.tdiv (n : Int) 8)))) 2 = (((n % 8 + n / 8) % 2 : Nat) : Int) := by
  have h := List.all_eq_true.1 slant_all n (List.mem_range.2 hn)
  rw [Bool.and_eq_true, beq_iff_eq, beq_iff_eq] at h
  exact h

section
variable {p : List Int}

structure MI (n : Nat) (s : Int × Int × Int × Int × Int) : Prop where
  sum : -9 * (n : Int) ≤ s.1 ∧ s.1 ≤ 9 * n
  great : 0 ≤ s.2.1 ∧ s.2.1 ≤ n
  kn : 0 ≤ s.2.2.1 ∧ s.2.2.1 ≤ n
  dk : 0 ≤ s.2.2.2.1 ∧ s.2.2.2.1 ≤ n
  lt : 0 ≤ s.2.2.2.2 ∧ s.2.2.2.2 ≤ n

theorem material_both (hs : Small p) (p2 p3 p4 p5 p6 : Int) : ∃ m d, chess_Material_J1 p = some (m, d, 0) ∧ gameroomref_MaterialOf_m p p2 p3 p4 p5 p6 = some (m, d) := by
  unfold chess_Material_J1 gameroomref_MaterialOf_m
  rw [show List.replicate 2 (0 : Int) = [0, 0] from rfl]
  have key := count_loop2' (step1 := chess_Material_L1 p) (step2 := gameroomref_MaterialOf_L1 p)
    (fun (s : Int × Int × Int × Int × Int) (n : Nat) => (s.1, s.2.1, s.2.2.1, [s.2.2.2.1, s.2.2.2.2], (n : Int)))
    (fun (s : Int × Int × Int × Int × Int) (n : Nat) => (s.1, s.2.2.1 + s.2.2.2.1 + s.2.2.2.2, s.2.2.1, s.2.2.2.2, s.2.2.2.1, decide (s.2.1 = 0), (n : Int)))
    MI (fun r1 r2 => ∃ s, MI 64 s ∧ r1 = (s.1, s.2.1, s.2.2.1, [s.2.2.2.1, s.2.2.2.2]) ∧ r2 = (s.1, s.2.2.1 + s.2.2.2.1 + s.2.2.2.2, s.2.2.1, s.2.2.2.2, s.2.2.2.1, decide (s.2.1 = 0))) 64 (0, 0, 0, 0, 0) ⟨by simp, by simp, by simp, by simp, by simp⟩ (by
    rintro n ⟨sum, great, kn, dk, lt⟩ hn ⟨i1, i2, i3, i4, i5⟩
    simp only at i1 i2 i3 i4 i5 ⊢
    have hx := hs.2 n hn
    have hsl := slant_p hn
    have hpar : (n % 8 + n / 8) % 2 = 0 ∨ (n % 8 + n / 8) % 2 = 1 := by omega
    have e1 : chess_Material_L1 p (sum, great, kn, [dk, lt], (n : Int)) = chess_Material_J3 p sum great kn [dk, lt] n := by
      simp only [chess_Material_L1]
      exact if_pos (decide_eq_true (by rw [hs.1]; omega))
    have e2 : gameroomref_MaterialOf_L1 p (sum, kn + dk + lt, kn, lt, dk, decide (great = 0), (n : Int)) = gameroomref_MaterialOf_J2 p sum (kn + dk + lt) kn lt dk (decide (great = 0)) n := by
      simp only [gameroomref_MaterialOf_L1]
      exact if_pos (decide_eq_true (by omega))
    rw [e1, e2]
    unfold chess_Material_J3 chess_Material_J5 chess_Material_J6 chess_Material_J4 gameroomref_MaterialOf_J2 gameroomref_MaterialOf_J4 gameroomref_MaterialOf_J3
    rw [asrt_pos (by rw [hs.1]; omega), asrt_pos (by rw [hs.1]; omega), kind_small hx, size_small (by omega), sign_eq, hsl.1, hsl.2, w64_of (x := (n : Int) + 1) (by omega), w64_of (x := great + 1) (by omega), w64_of (x := kn + 1) (by omega), w64_of (x := kn + dk + lt + 1) (by omega), w64_of (x := dk + 1) (by omega), w64_of (x := lt + 1) (by omega)]
    simp only [Option.bind_some]
    have h7 : geti p n = -6 ∨ geti p n = -5 ∨ geti p n = -4 ∨ geti p n = -3 ∨ geti p n = -2 ∨ geti p n = -1 ∨ geti p n = 0 ∨ geti p n = 1 ∨ geti p n = 2 ∨ geti p n = 3 ∨ geti p n = 4 ∨ geti p n = 5 ∨ geti p n = 6 := by omega
    have fin : ∀ (s' : Int × Int × Int × Int × Int) {A : Option (St (Int × Int × Int × List Int × Int) (Int × Int × Int × List Int))} {B : Option (St (Int × Int × Int × Int × Int × Bool × Int) (Int × Int × Int × Int × Int × Bool))}, A = some (.next (s'.1, s'.2.1, s'.2.2.1, [s'.2.2.2.1, s'.2.2.2.2], (n : Int) + 1)) → B = some (.next (s'.1, s'.2.2.1 + s'.2.2.2.1 + s'.2.2.2.2, s'.2.2.1, s'.2.2.2.2, s'.2.2.2.1, decide (s'.2.1 = 0), (n : Int) + 1)) → MI (n + 1) s' → ∃ s' : Int × Int × Int × Int × Int, A = some (.next (s'.1, s'.2.1, s'.2.2.1, [s'.2.2.2.1, s'.2.2.2.2], ((n + 1 : Nat) : Int))) ∧ B = some (.next (s'.1, s'.2.2.1 + s'.2.2.2.1 + s'.2.2.2.2, s'.2.2.1, s'.2.2.2.2, s'.2.2.2.1, decide (s'.2.1 = 0), ((n + 1 : Nat) : Int))) ∧ MI (n + 1) s' := fun s' A B h1 h2 h3 => ⟨s', h1, h2, h3⟩
    have w0 : w64 sum = sum := w64_of (by omega)
    have wd : w64 (dk + 1) = dk + 1 := w64_of (by omega)
    have wl : w64 (lt + 1) = lt + 1 := w64_of (by omega)
    have hgr : decide (great + 1 = 0) = false := decide_eq_false (by omega)
    rcases h7 with h | h | h | h | h | h | h | h | h | h | h | h | h
    · rw [h]
      have w1 : w64 (sum - (0 : Int)) = sum + (0) := by rw [w64_of (by omega)] <;> omega
      have w2 : w64 (sum + w64 (sg (-6) * 0)) = sum + (0) := by rw [show w64 (sg (-6) * 0) = 0 by decide]; exact w64_of (by omega)
      have g1 : geti ([0, 1, 3, 3, 5, 9, 0] : List Int) ((((-6 : Int).natAbs : Nat) : Int)) = 0 := by decide
      rw [g1, w2]
      exact fin (sum + (0), great, kn, dk, lt) (by simp [w0, asrt]) (by simp [asrt]) ⟨by simp only; omega, by simp only; omega, by simp only; omega, by simp only; omega, by simp only; omega⟩
    · rw [h]
      have w1 : w64 (sum - (9 : Int)) = sum + (-9) := by rw [w64_of (by omega)] <;> omega
      have w2 : w64 (sum + w64 (sg (-5) * 9)) = sum + (-9) := by rw [show w64 (sg (-5) * 9) = -9 by decide]; exact w64_of (by omega)
      have g1 : geti ([0, 1, 3, 3, 5, 9, 0] : List Int) ((((-5 : Int).natAbs : Nat) : Int)) = 9 := by decide
      rw [g1, w2]
      exact fin (sum + (-9), great + 1, kn, dk, lt) (by simp [w1, asrt]) (by simp [hgr, asrt]) ⟨by simp only; omega, by simp only; omega, by simp only; omega, by simp only; omega, by simp only; omega⟩
    · rw [h]
      have w1 : w64 (sum - (5 : Int)) = sum + (-5) := by rw [w64_of (by omega)] <;> omega
      have w2 : w64 (sum + w64 (sg (-4) * 5)) = sum + (-5) := by rw [show w64 (sg (-4) * 5) = -5 by decide]; exact w64_of (by omega)
      have g1 : geti ([0, 1, 3, 3, 5, 9, 0] : List Int) ((((-4 : Int).natAbs : Nat) : Int)) = 5 := by decide
      rw [g1, w2]
      exact fin (sum + (-5), great + 1, kn, dk, lt) (by simp [w1, asrt]) (by simp [hgr, asrt]) ⟨by simp only; omega, by simp only; omega, by simp only; omega, by simp only; omega, by simp only; omega⟩
    · rw [h]
      have w1 : w64 (sum - (3 : Int)) = sum + (-3) := by rw [w64_of (by omega)] <;> omega
      have w2 : w64 (sum + w64 (sg (-3) * 3)) = sum + (-3) := by rw [show w64 (sg (-3) * 3) = -3 by decide]; exact w64_of (by omega)
      have g1 : geti ([0, 1, 3, 3, 5, 9, 0] : List Int) ((((-3 : Int).natAbs : Nat) : Int)) = 3 := by decide
      rw [g1, w2]
      rcases hpar with hp | hp
      · rw [hp]
        exact fin (sum + (-3), great, kn, dk + 1, lt) (by simp [w1, wd, asrt, geti]) (by simp [asrt]; omega) ⟨by simp only; omega, by simp only; omega, by simp only; omega, by simp only; omega, by simp only; omega⟩
      · rw [hp]
        exact fin (sum + (-3), great, kn, dk, lt + 1) (by simp [w1, wl, asrt, geti]) (by simp [asrt]; omega) ⟨by simp only; omega, by simp only; omega, by simp only; omega, by simp only; omega, by simp only; omega⟩
    · rw [h]
      have w1 : w64 (sum - (3 : Int)) = sum + (-3) := by rw [w64_of (by omega)] <;> omega
      have w2 : w64 (sum + w64 (sg (-2) * 3)) = sum + (-3) := by rw [show w64 (sg (-2) * 3) = -3 by decide]; exact w64_of (by omega)
      have g1 : geti ([0, 1, 3, 3, 5, 9, 0] : List Int) ((((-2 : Int).natAbs : Nat) : Int)) = 3 := by decide
      rw [g1, w2]
      exact fin (sum + (-3), great, kn + 1, dk, lt) (by simp [w1, asrt]) (by simp [asrt]; omega) ⟨by simp only; omega, by simp only; omega, by simp only; omega, by simp only; omega, by simp only; omega⟩
    · rw [h]
      have w1 : w64 (sum - (1 : Int)) = sum + (-1) := by rw [w64_of (by omega)] <;> omega
      have w2 : w64 (sum + w64 (sg (-1) * 1)) = sum + (-1) := by rw [show w64 (sg (-1) * 1) = -1 by decide]; exact w64_of (by omega)
      have g1 : geti ([0, 1, 3, 3, 5, 9, 0] : List Int) ((((-1 : Int).natAbs : Nat) : Int)) = 1 := by decide
      rw [g1, w2]
      exact fin (sum + (-1), great + 1, kn, dk, lt) (by simp [w1, asrt]) (by simp [hgr, asrt]) ⟨by simp only; omega, by simp only; omega, by simp only; omega, by simp only; omega, by simp only; omega⟩
    · rw [h]
      have w1 : w64 (sum - (0 : Int)) = sum + (0) := by rw [w64_of (by omega)] <;> omega
      have w2 : w64 (sum + w64 (sg (0) * 0)) = sum + (0) := by rw [show w64 (sg (0) * 0) = 0 by decide]; exact w64_of (by omega)
      have g1 : geti ([0, 1, 3, 3, 5, 9, 0] : List Int) ((((0 : Int).natAbs : Nat) : Int)) = 0 := by decide
      rw [g1, w2]
      exact fin (sum + (0), great, kn, dk, lt) (by simp [w0, asrt]) (by simp [asrt]) ⟨by simp only; omega, by simp only; omega, by simp only; omega, by simp only; omega, by simp only; omega⟩
    · rw [h]
      have w1 : w64 (sum + (1 : Int)) = sum + (1) := by rw [w64_of (by omega)]
      have w2 : w64 (sum + w64 (sg (1) * 1)) = sum + (1) := by rw [show w64 (sg (1) * 1) = 1 by decide]; exact w64_of (by omega)
      have g1 : geti ([0, 1, 3, 3, 5, 9, 0] : List Int) ((((1 : Int).natAbs : Nat) : Int)) = 1 := by decide
      rw [g1, w2]
      exact fin (sum + (1), great + 1, kn, dk, lt) (by simp [w1, asrt]) (by simp [hgr, asrt]) ⟨by simp only; omega, by simp only; omega, by simp only; omega, by simp only; omega, by simp only; omega⟩
    · rw [h]
      have w1 : w64 (sum + (3 : Int)) = sum + (3) := by rw [w64_of (by omega)]
      have w2 : w64 (sum + w64 (sg (2) * 3)) = sum + (3) := by rw [show w64 (sg (2) * 3) = 3 by decide]; exact w64_of (by omega)
      have g1 : geti ([0, 1, 3, 3, 5, 9, 0] : List Int) ((((2 : Int).natAbs : Nat) : Int)) = 3 := by decide
      rw [g1, w2]
      exact fin (sum + (3), great, kn + 1, dk, lt) (by simp [w1, asrt]) (by simp [asrt]; omega) ⟨by simp only; omega, by simp only; omega, by simp only; omega, by simp only; omega, by simp only; omega⟩
    · rw [h]
      have w1 : w64 (sum + (3 : Int)) = sum + (3) := by rw [w64_of (by omega)]
      have w2 : w64 (sum + w64 (sg (3) * 3)) = sum + (3) := by rw [show w64 (sg (3) * 3) = 3 by decide]; exact w64_of (by omega)
      have g1 : geti ([0, 1, 3, 3, 5, 9, 0] : List Int) ((((3 : Int).natAbs : Nat) : Int)) = 3 := by decide
      rw [g1, w2]
      rcases hpar with hp | hp
      · rw [hp]
        exact fin (sum + (3), great, kn, dk + 1, lt) (by simp [w1, wd, asrt, geti]) (by simp [asrt]; omega) ⟨by simp only; omega, by simp only; omega, by simp only; omega, by simp only; omega, by simp only; omega⟩
      · rw [hp]
        exact fin (sum + (3), great, kn, dk, lt + 1) (by simp [w1, wl, asrt, geti]) (by simp [asrt]; omega) ⟨by simp only; omega, by simp only; omega, by simp only; omega, by simp only; omega, by simp only; omega⟩
    · rw [h]
      have w1 : w64 (sum + (5 : Int)) = sum + (5) := by rw [w64_of (by omega)]
      have w2 : w64 (sum + w64 (sg (4) * 5)) = sum + (5) := by rw [show w64 (sg (4) * 5) = 5 by decide]; exact w64_of (by omega)
      have g1 : geti ([0, 1, 3, 3, 5, 9, 0] : List Int) ((((4 : Int).natAbs : Nat) : Int)) = 5 := by decide
      rw [g1, w2]
      exact fin (sum + (5), great + 1, kn, dk, lt) (by simp [w1, asrt]) (by simp [hgr, asrt]) ⟨by simp only; omega, by simp only; omega, by simp only; omega, by simp only; omega, by simp only; omega⟩
    · rw [h]
      have w1 : w64 (sum + (9 : Int)) = sum + (9) := by rw [w64_of (by omega)]
      have w2 : w64 (sum + w64 (sg (5) * 9)) = sum + (9) := by rw [show w64 (sg (5) * 9) = 9 by decide]; exact w64_of (by omega)
      have g1 : geti ([0, 1, 3, 3, 5, 9, 0] : List Int) ((((5 : Int).natAbs : Nat) : Int)) = 9 := by decide
      rw [g1, w2]
      exact fin (sum + (9), great + 1, kn, dk, lt) (by simp [w1, asrt]) (by simp [hgr, asrt]) ⟨by simp only; omega, by simp only; omega, by simp only; omega, by simp only; omega, by simp only; omega⟩
    · rw [h]
      have w1 : w64 (sum + (0 : Int)) = sum + (0) := by rw [w64_of (by omega)] <;> omega
      have w2 : w64 (sum + w64 (sg (6) * 0)) = sum + (0) := by rw [show w64 (sg (6) * 0) = 0 by decide]; exact w64_of (by omega)
      have g1 : geti ([0, 1, 3, 3, 5, 9, 0] : List Int) ((((6 : Int).natAbs : Nat) : Int)) = 0 := by decide
      rw [g1, w2]
      exact fin (sum + (0), great, kn, dk, lt) (by simp [w0, asrt]) (by simp [asrt]) ⟨by simp only; omega, by simp only; omega, by simp only; omega, by simp only; omega, by simp only; omega⟩
    ) (by
    rintro ⟨sum, great, kn, dk, lt⟩ hI
    refine ⟨_, _, ?_, ?_, ⟨(sum, great, kn, dk, lt), hI, rfl, rfl⟩⟩
    · simp only [chess_Material_L1]
      rw [if_neg (by rw [hs.1]; simp)]
    · simp only [gameroomref_MaterialOf_L1]
      rw [if_neg (by simp)])
  obtain ⟨r1, r2, h1, h2, ⟨sum, great, kn, dk, lt⟩, ⟨i1, i2, i3, i4, i5⟩, rfl, rfl⟩ := key
  have h1' : loop (chess_Material_L1 p) (0, 0, 0, [0, 0], 0) = _ := h1
  have h2' : loop (gameroomref_MaterialOf_L1 p) (0, 0, 0, 0, 0, true, 0) = _ := h2
  rw [h1', h2', Option.bind_some, Option.bind_some]
  simp only at i1 i2 i3 i4 i5
  simp only [chess_Material_K1, gameroomref_MaterialOf_K1]
  unfold chess_Material_J2 gameroomref_MaterialOf_J1
  rw [asrt_pos (by decide), asrt_pos (by decide), asrt_pos (fun _ _ => by decide), asrt_pos (fun _ _ => by decide), show geti [dk, lt] 0 = dk from rfl, show geti [dk, lt] 1 = lt from rfl, w64_of (x := kn + dk) (by omega), w64_of (x := kn + dk + lt) (by omega)]
  refine ⟨_, _, rfl, ?_⟩
  congr 2
  have e : (minI dk lt == 0) = (lt == 0 || dk == 0) := by
    rw [Bool.eq_iff_iff]
    simp only [Bool.or_eq_true, beq_iff_eq]
    unfold minI
    split <;> omega
  rw [e]
  have e2 : (great == 0) = decide (great = 0) := by
    rw [Bool.eq_iff_iff, beq_iff_eq, decide_eq_true_eq]
  rw [e2]

theorem sameInts_eq {a b : List Int} (ha : a.length ≤ 17592186044416) : gameroomlaw_sameInts_m a b = some (decide (a = b)) := by
  unfold gameroomlaw_sameInts_m
  by_cases hl : a.length = b.length
  · rw [if_neg (by simp [hl])]
    unfold gameroomlaw_sameInts_J1
    have h := count_loop (step := gameroomlaw_sameInts_L1 a b) (fun (_ : Unit) k => (k : Int)) (fun k _ => ∀ i, i < k → a[i]? = b[i]?) (fun r => gameroomlaw_sameInts_K1 r = some (decide (a = b))) a.length () (fun i hi => by omega) ?_ ?_
    · obtain ⟨r, h1, h2⟩ := h
      have h1' : loop (gameroomlaw_sameInts_L1 a b) 0 = some r := h1
      rw [h1']
      exact h2
    · intro i _ hi hI
      obtain ⟨x, hx⟩ : ∃ x, a[i]? = some x := ⟨_, List.getElem?_eq_getElem hi⟩
      obtain ⟨y, hy⟩ : ∃ y, b[i]? = some y := ⟨_, List.getElem?_eq_getElem (by omega)⟩
      simp only [gameroomlaw_sameInts_L1, gameroomlaw_sameInts_J3]
      rw [if_pos (by simpa using hi), asrt_pos (idx_bd hx), asrt_pos (idx_bd hy), geti_some hx, geti_some hy]
      by_cases hxy : x = y
      · left
        rw [if_neg (by simp [hxy])]
        refine ⟨(), by simp only [gameroomlaw_sameInts_J4]; rw [w64_succ (by omega)]; rfl, fun j hj => ?_⟩
        by_cases hji : j = i
        · subst hji; rw [hx, hy, hxy]
        · exact hI j (by omega)
      · right
        rw [if_pos (by simp [hxy])]
        refine ⟨_, rfl, ?_⟩
        have hne : a ≠ b := fun h => hxy (by rw [h, hy] at hx; exact (Option.some.inj hx).symm)
        simp [gameroomlaw_sameInts_K1, hne]
    · intro _ hI
      refine ⟨Fl.go (), ?_, ?_⟩
      · simp only [gameroomlaw_sameInts_L1]
        rw [if_neg (by simp)]
      · have : a = b := by
          apply List.ext_getElem?
          intro i
          by_cases hi : i < a.length
          · exact hI i hi
          · rw [List.getElem?_eq_none (by omega), List.getElem?_eq_none (by omega)]
        simp [gameroomlaw_sameInts_K1, gameroomlaw_sameInts_J2, this]
  · rw [if_pos (by simp; omega)]
    have : a ≠ b := fun h => hl (by rw [h])
    simp [this]
theorem chessAttacks_true (hin : ∀ y ∈ p, inI y) (hlen : p.length ≤ 17592186044416) (p2 p3 p4 p5 p6 place by1 : Int) : gameroomlaw_ChessAttacks_m p p2 p3 p4 p5 p6 place by1 = some true := by
  have hco : gameroomref_ChessOf_m p p2 p3 p4 p5 p6 = some (p, p2, p3, p4, p5, p6) := by
    unfold gameroomref_ChessOf_m gameroomref_Ints_m
    rw [asrt_pos (by unfold bigN; omega)]
    rfl
  obtain ⟨b, h1, h2, h3⟩ := may_both hin p2 p3 p4 p5 p6
  unfold gameroomlaw_ChessAttacks_m
  simp only [hco, Option.bind_some]
  unfold chess_Attackers_m chess_Check_m chess_Material_m chess_May_m
  rw [h1, h2]
  simp only [Option.bind_some]
  cases b with
  | false => rfl
  | true =>
    have hp := h3 rfl
    obtain ⟨m, d, k1, k2⟩ := material_both hp.small p2 p3 p4 p5 p6
    have hck := check_both hp.small hp.turn (hp.king p2)
    unfold chess_Attackers_J1 chess_Check_J1 gameroomlaw_ChessAttacks_J1
    rw [hck.1, hck.2, k1, k2]
    simp only [Bool.not_true, Bool.false_eq_true, if_false, Option.bind_some, bne_self_eq_false, Bool.or_self, Bool.not_false, if_true]
    unfold gameroomlaw_ChessAttacks_J2 gameroomlaw_ChessAttacks_J3 gameroomlaw_ChessAttacks_J4
    by_cases hr : (((decide (place < 0) || decide ((63 : Int) < place)) || decide (by1 < 0)) || decide ((1 : Int) < by1)) = true
    · rw [hr]
      rfl
    · have hr' := hr
      simp only [Bool.or_eq_true, decide_eq_true_eq, not_or] at hr'
      rw [Bool.not_eq_true] at hr
      rw [hr]
      obtain ⟨t, rfl⟩ : ∃ t : Nat, place = t := ⟨place.toNat, by omega⟩
      have ha := attackers_p hp.small (t := t) (by1 := by1) (by omega)
      have hb := attackers_r hp.small (t := t) (by omega) (by1 := by1) (by omega)
      rw [ha, hb]
      have hl := attL_len p t by1 64
      simp only [Bool.false_eq_true, if_false, Option.bind_some, beq_self_eq_true, if_true]
      rw [sameInts_eq (by omega)]
      simp
end
theorem true_ChessAttacks (p : List Int) (p2 p3 p4 p5 p6 place by1 : Int) (hl : p.length ≤ 17592186043904) (hin : ∀ y ∈ p, inI y) (_h2 : inI p2) (_h3 : inI p3) (_h4 : inI p4) (_h5 : inI p5) (_h6 : inI p6) (_h7 : inI place) (_h8 : inI by1) : gameroomlaw_ChessAttacks_m p p2 p3 p4 p5 p6 place by1 = some true := chessAttacks_true hin (by omega) _ _ _ _ _ _ _
end Go.Proofs.Ytgafnmnacolgbaa
