/-
  Chess: material, places of moves in lists, results; All, Do and Result answer as the document says.
-/
import Derived.Test.YtfmmlmiakkjaiaaCMj
import Derived.Test.YtfmmlmiakkjaiaaNMD
namespace Go.Proofs.Ytfmmlmiakkjaiaa
open Go Go.GL Go.RowKit

theorem slant_all : ((List.range 64).all fun n => (bAnd (w64 ((bAnd (n : Int) 7) + (shrK .i64 (n : Int) 3))) 1 == (((n % 8 + n / 8) % 2 : Nat) : Int)) && (Int.tmod (w64 ((Int.tmod (n : Int) 8) + (w64 (Int.tdiv (n : Int) 8)))) 2 == (((n % 8 + n / 8) % 2 : Nat) : Int))) = true := by decide +kernel
theorem slant_p {n : Nat} (hn : n < 64) : bAnd (w64 ((bAnd (n : Int) 7) + (shrK .i64 (n : Int) 3))) 1 = (((n % 8 + n / 8) % 2 : Nat) : Int) ∧ Int.tmod (w64 ((Int.tmod (n : Int) 8) + (w64 (Int.tdiv (n : Int) 8)))) 2 = (((n % 8 + n / 8) % 2 : Nat) : Int) := by
  have h := List.all_eq_true.1 slant_all n (List.mem_range.2 hn)
  rw [Bool.and_eq_true, beq_iff_eq, beq_iff_eq] at h
  exact h

section
variable {p : List Int}

structure MI (n : Nat) (s : Int × Int × Int × Int × Int) : Prop where
  sum : -9 * (n : Int) ≤ s.1 ∧ s.1 ≤ 9 * n
  great : 0 ≤ s.2.1 ∧ s.2.1 ≤ n
  kn : 0 ≤ s.2.2.1 ∧ s.2.2.1 ≤ n
  dk : 0 ≤ s.2.2.2.1 ∧ s.2.2.2.1 ≤ n
  lt : 0 ≤ s.2.2.2.2 ∧ s.2.2.2.2 ≤ n

theorem material_both (hs : Small p) (p2 p3 p4 p5 p6 : Int) : ∃ m d, chess_Material_J1 p = some (m, d, 0) ∧ rf_MaterialOf_m p p2 p3 p4 p5 p6 = some (m, d) := by
  unfold chess_Material_J1 rf_MaterialOf_m
  rw [show List.replicate 2 (0 : Int) = [0, 0] from rfl]
  have key := count_loop2' (step1 := chess_Material_L1 p) (step2 := rf_MaterialOf_L1 p)
    (fun (s : Int × Int × Int × Int × Int) (n : Nat) => (s.1, s.2.1, s.2.2.1, [s.2.2.2.1, s.2.2.2.2], (n : Int)))
    (fun (s : Int × Int × Int × Int × Int) (n : Nat) => (s.1, s.2.2.1 + s.2.2.2.1 + s.2.2.2.2, s.2.2.1, s.2.2.2.2, s.2.2.2.1, decide (s.2.1 = 0), (n : Int)))
    MI (fun r1 r2 => ∃ s, MI 64 s ∧ r1 = (s.1, s.2.1, s.2.2.1, [s.2.2.2.1, s.2.2.2.2]) ∧ r2 = (s.1, s.2.2.1 + s.2.2.2.1 + s.2.2.2.2, s.2.2.1, s.2.2.2.2, s.2.2.2.1, decide (s.2.1 = 0))) 64 (0, 0, 0, 0, 0) ⟨by simp, by simp, by simp, by simp, by simp⟩ (by
    rintro n ⟨sum, great, kn, dk, lt⟩ hn ⟨i1, i2, i3, i4, i5⟩
    simp only at i1 i2 i3 i4 i5 ⊢
    have hx := hs.2 n hn
    have hsl := slant_p hn
    have hpar : (n % 8 + n / 8) % 2 = 0 ∨ (n % 8 + n / 8) % 2 = 1 := by omega
    have e1 : chess_Material_L1 p (sum, great, kn, [dk, lt], (n : Int)) = chess_Material_J3 p sum great kn [dk, lt] n := by
      simp only [chess_Material_L1]
      exact if_pos (decide_eq_true (by rw [hs.1]; omega))
    have e2 : rf_MaterialOf_L1 p (sum, kn + dk + lt, kn, lt, dk, decide (great = 0), (n : Int)) = rf_MaterialOf_J2 p sum (kn + dk + lt) kn lt dk (decide (great = 0)) n := by
      simp only [rf_MaterialOf_L1]
      exact if_pos (decide_eq_true (by omega))
    rw [e1, e2]
    unfold chess_Material_J3 chess_Material_J5 chess_Material_J6 chess_Material_J4 rf_MaterialOf_J2 rf_MaterialOf_J4 rf_MaterialOf_J3
    rw [asrt_pos (by rw [hs.1]; omega), asrt_pos (by rw [hs.1]; omega), kind_small hx, size_small (by omega), sign_eq, hsl.1, hsl.2, w64_of (x := (n : Int) + 1) (by omega), w64_of (x := great + 1) (by omega), w64_of (x := kn + 1) (by omega), w64_of (x := kn + dk + lt + 1) (by omega), w64_of (x := dk + 1) (by omega), w64_of (x := lt + 1) (by omega)]
    simp only [Option.bind_some]
    have h7 : geti p n = -6 ∨ geti p n = -5 ∨ geti p n = -4 ∨ geti p n = -3 ∨ geti p n = -2 ∨ geti p n = -1 ∨ geti p n = 0 ∨ geti p n = 1 ∨ geti p n = 2 ∨ geti p n = 3 ∨ geti p n = 4 ∨ geti p n = 5 ∨ geti p n = 6 := by omega
    have fin : ∀ (s' : Int × Int × Int × Int × Int) {A : Option (St (Int × Int × Int × List Int × Int) (Int × Int × Int × List Int))} {B : Option (St (Int × Int × Int × Int × Int × Bool × Int) (Int × Int × Int × Int × Int × Bool))}, A = some (.next (s'.1, s'.2.1, s'.2.2.1, [s'.2.2.2.1, s'.2.2.2.2], (n : Int) + 1)) → B = some (.next (s'.1, s'.2.2.1 + s'.2.2.2.1 + s'.2.2.2.2, s'.2.2.1, s'.2.2.2.2, s'.2.2.2.1, decide (s'.2.1 = 0), (n : Int) + 1)) → MI (n + 1) s' → ∃ s' : Int × Int × Int × Int × Int, A = some (.next (s'.1, s'.2.1, s'.2.2.1, [s'.2.2.2.1, s'.2.2.2.2], ((n + 1 : Nat) : Int))) ∧ B = some (.next (s'.1, s'.2.2.1 + s'.2.2.2.1 + s'.2.2.2.2, s'.2.2.1, s'.2.2.2.2, s'.2.2.2.1, decide (s'.2.1 = 0), ((n + 1 : Nat) : Int))) ∧ MI (n + 1) s' := fun s' A B h1 h2 h3 => ⟨s', h1, h2, h3⟩
    have w0 : w64 sum = sum := w64_of (by omega)
    have wd : w64 (dk + 1) = dk + 1 := w64_of (by omega)
    have wl : w64 (lt + 1) = lt + 1 := w64_of (by omega)
    have hgr : decide (great + 1 = 0) = false := decide_eq_false (by omega)
    rcases h7 with h | h | h | h | h | h | h | h | h | h | h | h | h
    · rw [h]
      have w1 : w64 (sum - (0 : Int)) = sum + (0) := by rw [w64_of (by omega)] <;> omega
      have w2 : w64 (sum + w64 (sg (-6) * 0)) = sum + (0) := by rw [show w64 (sg (-6) * 0) = 0 by decide]; exact w64_of (by omega)
      have g1 : geti ([0, 1, 3, 3, 5, 9, 0] : List Int) ((((-6 : Int).natAbs : Nat) : Int)) = 0 := by decide
      rw [g1, w2]
      exact fin (sum + (0), great, kn, dk, lt) (by simp [w0, asrt]) (by simp [asrt]) ⟨by simp only; omega, by simp only; omega, by simp only; omega, by simp only; omega, by simp only; omega⟩
    · rw [h]
      have w1 : w64 (sum - (9 : Int)) = sum + (-9) := by rw [w64_of (by omega)] <;> omega
      have w2 : w64 (sum + w64 (sg (-5) * 9)) = sum + (-9) := by rw [show w64 (sg (-5) * 9) = -9 by decide]; exact w64_of (by omega)
      have g1 : geti ([0, 1, 3, 3, 5, 9, 0] : List Int) ((((-5 : Int).natAbs : Nat) : Int)) = 9 := by decide
      rw [g1, w2]
      exact fin (sum + (-9), great + 1, kn, dk, lt) (by simp [w1, asrt]) (by simp [hgr, asrt]) ⟨by simp only; omega, by simp only; omega, by simp only; omega, by simp only; omega, by simp only; omega⟩
    · rw [h]
      have w1 : w64 (sum - (5 : Int)) = sum + (-5) := by rw [w64_of (by omega)] <;> omega
      have w2 : w64 (sum + w64 (sg (-4) * 5)) = sum + (-5) := by rw [show w64 (sg (-4) * 5) = -5 by decide]; exact w64_of (by omega)
      have g1 : geti ([0, 1, 3, 3, 5, 9, 0] : List Int) ((((-4 : Int).natAbs : Nat) : Int)) = 5 := by decide
      rw [g1, w2]
      exact fin (sum + (-5), great + 1, kn, dk, lt) (by simp [w1, asrt]) (by simp [hgr, asrt]) ⟨by simp only; omega, by simp only; omega, by simp only; omega, by simp only; omega, by simp only; omega⟩
    · rw [h]
      have w1 : w64 (sum - (3 : Int)) = sum + (-3) := by rw [w64_of (by omega)] <;> omega
      have w2 : w64 (sum + w64 (sg (-3) * 3)) = sum + (-3) := by rw [show w64 (sg (-3) * 3) = -3 by decide]; exact w64_of (by omega)
      have g1 : geti ([0, 1, 3, 3, 5, 9, 0] : List Int) ((((-3 : Int).natAbs : Nat) : Int)) = 3 := by decide
      rw [g1, w2]
      rcases hpar with hp | hp
      · rw [hp]
        exact fin (sum + (-3), great, kn, dk + 1, lt) (by simp [w1, wd, asrt, geti]) (by simp [asrt]; omega) ⟨by simp only; omega, by simp only; omega, by simp only; omega, by simp only; omega, by simp only; omega⟩
      · rw [hp]
        exact fin (sum + (-3), great, kn, dk, lt + 1) (by simp [w1, wl, asrt, geti]) (by simp [asrt]; omega) ⟨by simp only; omega, by simp only; omega, by simp only; omega, by simp only; omega, by simp only; omega⟩
    · rw [h]
      have w1 : w64 (sum - (3 : Int)) = sum + (-3) := by rw [w64_of (by omega)] <;> omega
      have w2 : w64 (sum + w64 (sg (-2) * 3)) = sum + (-3) := by rw [show w64 (sg (-2) * 3) = -3 by decide]; exact w64_of (by omega)
      have g1 : geti ([0, 1, 3, 3, 5, 9, 0] : List Int) ((((-2 : Int).natAbs : Nat) : Int)) = 3 := by decide
      rw [g1, w2]
      exact fin (sum + (-3), great, kn + 1, dk, lt) (by simp [w1, asrt]) (by simp [asrt]; omega) ⟨by simp only; omega, by simp only; omega, by simp only; omega, by simp only; omega, by simp only; omega⟩
    · rw [h]
      have w1 : w64 (sum - (1 : Int)) = sum + (-1) := by rw [w64_of (by omega)] <;> omega
      have w2 : w64 (sum + w64 (sg (-1) * 1)) = sum + (-1) := by rw [show w64 (sg (-1) * 1) = -1 by decide]; exact w64_of (by omega)
      have g1 : geti ([0, 1, 3, 3, 5, 9, 0] : List Int) ((((-1 : Int).natAbs : Nat) : Int)) = 1 := by decide
      rw [g1, w2]
      exact fin (sum + (-1), great + 1, kn, dk, lt) (by simp [w1, asrt]) (by simp [hgr, asrt]) ⟨by simp only; omega, by simp only; omega, by simp only; omega, by simp only; omega, by simp only; omega⟩
    · rw [h]
      have w1 : w64 (sum - (0 : Int)) = sum + (0) := by rw [w64_of (by omega)] <;> omega
      have w2 : w64 (sum + w64 (sg (0) * 0)) = sum + (0) := by rw [show w64 (sg (0) * 0) = 0 by decide]; exact w64_of (by omega)
      have g1 : geti ([0, 1, 3, 3, 5, 9, 0] : List Int) ((((0 : Int).natAbs : Nat) : Int)) = 0 := by decide
      rw [g1, w2]
      exact fin (sum + (0), great, kn, dk, lt) (by simp [w0, asrt]) (by simp [asrt]) ⟨by simp only; omega, by simp only; omega, by simp only; omega, by simp only; omega, by simp only; omega⟩
    · rw [h]
      have w1 : w64 (sum + (1 : Int)) = sum + (1) := by rw [w64_of (by omega)]
      have w2 : w64 (sum + w64 (sg (1) * 1)) = sum + (1) := by rw [show w64 (sg (1) * 1) = 1 by decide]; exact w64_of (by omega)
      have g1 : geti ([0, 1, 3, 3, 5, 9, 0] : List Int) ((((1 : Int).natAbs : Nat) : Int)) = 1 := by decide
      rw [g1, w2]
      exact fin (sum + (1), great + 1, kn, dk, lt) (by simp [w1, asrt]) (by simp [hgr, asrt]) ⟨by simp only; omega, by simp only; omega, by simp only; omega, by simp only; omega, by simp only; omega⟩
    · rw [h]
      have w1 : w64 (sum + (3 : Int)) = sum + (3) := by rw [w64_of (by omega)]
      have w2 : w64 (sum + w64 (sg (2) * 3)) = sum + (3) := by rw [show w64 (sg (2) * 3) = 3 by decide]; exact w64_of (by omega)
      have g1 : geti ([0, 1, 3, 3, 5, 9, 0] : List Int) ((((2 : Int).natAbs : Nat) : Int)) = 3 := by decide
      rw [g1, w2]
      exact fin (sum + (3), great, kn + 1, dk, lt) (by simp [w1, asrt]) (by simp [asrt]; omega) ⟨by simp only; omega, by simp only; omega, by simp only; omega, by simp only; omega, by simp only; omega⟩
    · rw [h]
      have w1 : w64 (sum + (3 : Int)) = sum + (3) := by rw [w64_of (by omega)]
      have w2 : w64 (sum + w64 (sg (3) * 3)) = sum + (3) := by rw [show w64 (sg (3) * 3) = 3 by decide]; exact w64_of (by omega)
      have g1 : geti ([0, 1, 3, 3, 5, 9, 0] : List Int) ((((3 : Int).natAbs : Nat) : Int)) = 3 := by decide
      rw [g1, w2]
      rcases hpar with hp | hp
      · rw [hp]
        exact fin (sum + (3), great, kn, dk + 1, lt) (by simp [w1, wd, asrt, geti]) (by simp [asrt]; omega) ⟨by simp only; omega, by simp only; omega, by simp only; omega, by simp only; omega, by simp only; omega⟩
      · rw [hp]
        exact fin (sum + (3), great, kn, dk, lt + 1) (by simp [w1, wl, asrt, geti]) (by simp [asrt]; omega) ⟨by simp only; omega, by simp only; omega, by simp only; omega, by simp only; omega, by simp only; omega⟩
    · rw [h]
      have w1 : w64 (sum + (5 : Int)) = sum + (5) := by rw [w64_of (by omega)]
      have w2 : w64 (sum + w64 (sg (4) * 5)) = sum + (5) := by rw [show w64 (sg (4) * 5) = 5 by decide]; exact w64_of (by omega)
      have g1 : geti ([0, 1, 3, 3, 5, 9, 0] : List Int) ((((4 : Int).natAbs : Nat) : Int)) = 5 := by decide
      rw [g1, w2]
      exact fin (sum + (5), great + 1, kn, dk, lt) (by simp [w1, asrt]) (by simp [hgr, asrt]) ⟨by simp only; omega, by simp only; omega, by simp only; omega, by simp only; omega, by simp only; omega⟩
    · rw [h]
      have w1 : w64 (sum + (9 : Int)) = sum + (9) := by rw [w64_of (by omega)]
      have w2 : w64 (sum + w64 (sg (5) * 9)) = sum + (9) := by rw [show w64 (sg (5) * 9) = 9 by decide]; exact w64_of (by omega)
      have g1 : geti ([0, 1, 3, 3, 5, 9, 0] : List Int) ((((5 : Int).natAbs : Nat) : Int)) = 9 := by decide
      rw [g1, w2]
      exact fin (sum + (9), great + 1, kn, dk, lt) (by simp [w1, asrt]) (by simp [hgr, asrt]) ⟨by simp only; omega, by simp only; omega, by simp only; omega, by simp only; omega, by simp only; omega⟩
    · rw [h]
      have w1 : w64 (sum + (0 : Int)) = sum + (0) := by rw [w64_of (by omega)] <;> omega
      have w2 : w64 (sum + w64 (sg (6) * 0)) = sum + (0) := by rw [show w64 (sg (6) * 0) = 0 by decide]; exact w64_of (by omega)
      have g1 : geti ([0, 1, 3, 3, 5, 9, 0] : List Int) ((((6 : Int).natAbs : Nat) : Int)) = 0 := by decide
      rw [g1, w2]
      exact fin (sum + (0), great, kn, dk, lt) (by simp [w0, asrt]) (by simp [asrt]) ⟨by simp only; omega, by simp only; omega, by simp only; omega, by simp only; omega, by simp only; omega⟩
    ) (by
    rintro ⟨sum, great, kn, dk, lt⟩ hI
    refine ⟨_, _, ?_, ?_, ⟨(sum, great, kn, dk, lt), hI, rfl, rfl⟩⟩
    · simp only [chess_Material_L1]
      rw [if_neg (by rw [hs.1]; simp)]
    · simp only [rf_MaterialOf_L1]
      rw [if_neg (by simp)])
  obtain ⟨r1, r2, h1, h2, ⟨sum, great, kn, dk, lt⟩, ⟨i1, i2, i3, i4, i5⟩, rfl, rfl⟩ := key
  have h1' : loop (chess_Material_L1 p) (0, 0, 0, [0, 0], 0) = _ := h1
  have h2' : loop (rf_MaterialOf_L1 p) (0, 0, 0, 0, 0, true, 0) = _ := h2
  rw [h1', h2', Option.bind_some, Option.bind_some]
  simp only at i1 i2 i3 i4 i5
  simp only [chess_Material_K1, rf_MaterialOf_K1]
  unfold chess_Material_J2 rf_MaterialOf_J1
  rw [asrt_pos (by decide), asrt_pos (by decide), asrt_pos (fun _ _ => by decide), asrt_pos (fun _ _ => by decide), show geti [dk, lt] 0 = dk from rfl, show geti [dk, lt] 1 = lt from rfl, w64_of (x := kn + dk) (by omega), w64_of (x := kn + dk + lt) (by omega)]
  refine ⟨_, _, rfl, ?_⟩
  congr 2
  have e : (minI dk lt == 0) = (lt == 0 || dk == 0) := by
    rw [Bool.eq_iff_iff]
    simp only [Bool.or_eq_true, beq_iff_eq]
    unfold minI
    split <;> omega
  rw [e]
  have e2 : (great == 0) = decide (great = 0) := by
    rw [Bool.eq_iff_iff, beq_iff_eq, decide_eq_true_eq]
  rw [e2]

theorem sameInts_eq {a b : List Int} (ha : a.length ≤ 17592186044416) : rf_sameInts_m a b = some (decide (a = b)) := by
  unfold rf_sameInts_m
  by_cases hl : a.length = b.length
  · rw [if_neg (by simp [hl])]
    unfold rf_sameInts_J1
    have h := count_loop (step := rf_sameInts_L1 a b) (fun (_ : Unit) k => (k : Int)) (fun k _ => ∀ i, i < k → a[i]? = b[i]?) (fun r => rf_sameInts_K1 r = some (decide (a = b))) a.length () (fun i hi => by omega) ?_ ?_
    · obtain ⟨r, h1, h2⟩ := h
      have h1' : loop (rf_sameInts_L1 a b) 0 = some r := h1
      rw [h1']
      exact h2
    · intro i _ hi hI
      obtain ⟨x, hx⟩ : ∃ x, a[i]? = some x := ⟨_, List.getElem?_eq_getElem hi⟩
      obtain ⟨y, hy⟩ : ∃ y, b[i]? = some y := ⟨_, List.getElem?_eq_getElem (by omega)⟩
      simp only [rf_sameInts_L1, rf_sameInts_J3]
      rw [if_pos (by simpa using hi), asrt_pos (idx_bd hx), asrt_pos (idx_bd hy), geti_some hx, geti_some hy]
      by_cases hxy : x = y
      · left
        rw [if_neg (by simp [hxy])]
        refine ⟨(), by simp only [rf_sameInts_J4]; rw [w64_succ (by omega)]; rfl, fun j hj => ?_⟩
        by_cases hji : j = i
        · subst hji; rw [hx, hy, hxy]
        · exact hI j (by omega)
      · right
        rw [if_pos (by simp [hxy])]
        refine ⟨_, rfl, ?_⟩
        have hne : a ≠ b := fun h => hxy (by rw [h, hy] at hx; exact (Option.some.inj hx).symm)
        simp [rf_sameInts_K1, hne]
    · intro _ hI
      refine ⟨Fl.go (), ?_, ?_⟩
      · simp only [rf_sameInts_L1]
        rw [if_neg (by simp)]
      · have : a = b := by
          apply List.ext_getElem?
          intro i
          by_cases hi : i < a.length
          · exact hI i hi
          · rw [List.getElem?_eq_none (by omega), List.getElem?_eq_none (by omega)]
        simp [rf_sameInts_K1, rf_sameInts_J2, this]
  · rw [if_pos (by simp; omega)]
    have : a ≠ b := fun h => hl (by rw [h])
    simp [this]
end

theorem mv3 (x : Int × Int × Int) (a b c : Int) : (((x.1 == a) && ((x.2.1 == b) && (x.2.2 == c))) = true) ↔ x = (a, b, c) := by
  obtain ⟨x1, x2, x3⟩ := x
  simp only [Bool.and_eq_true, beq_iff_eq, Prod.mk.injEq]
theorem mv3' (x : Int × Int × Int) (a b c : Int) : (((a == x.1) && ((b == x.2.1) && (c == x.2.2))) = true) ↔ x = (a, b, c) := by
  obtain ⟨x1, x2, x3⟩ := x
  simp only [Bool.and_eq_true, beq_iff_eq, Prod.mk.injEq]
  omega

def midx (l : List Mv) (m : Mv) : Int := fidx (fun y => decide (y = m)) l
theorem moveIdx_p {l : List Mv} (hl : l.length ≤ 1000000) (a b c : Int) : api_Move_4_m l a b c = some (midx l (a, b, c)) := by
  unfold api_Move_4_m
  rw [search_loop (l := l) (fun y => decide (y = (a, b, c))) (fun i => Fl.ret (i : Int)) (Fl.go ()) ?_ ?_ ?_]
  · unfold midx fidx
    cases l.findIdx? (fun y => decide (y = (a, b, c))) <;> rfl
  · intro i x hx hp
    have hb := idx_bd hx
    simp only [api_Move_4_L1, api_Move_4_J2]
    rw [if_pos (by simpa using hb.2), asrt_pos hb, getd_some hx, if_pos ((mv3' x a b c).2 (of_decide_eq_true hp))]
  · intro i x hx hp
    have hb := idx_bd hx
    simp only [api_Move_4_L1, api_Move_4_J2]
    rw [if_pos (by simpa using hb.2), asrt_pos hb, getd_some hx, if_neg (fun q => of_decide_eq_false hp ((mv3' x a b c).1 q))]
    simp only [api_Move_4_J3]
    rw [w64_succ (by omega)]
  · simp only [api_Move_4_L1]
    rw [if_neg (by simp)]
theorem moveAt_p {l : List Mv} (hl : l.length ≤ 1000000) (a b c : Int) : rf_MoveAt_m l a b c = some (midx l (a, b, c)) := by
  unfold rf_MoveAt_m
  rw [search_loop (l := l) (fun y => decide (y = (a, b, c))) (fun i => Fl.ret (i : Int)) (Fl.go ()) ?_ ?_ ?_]
  · unfold midx fidx
    cases l.findIdx? (fun y => decide (y = (a, b, c))) <;> rfl
  · intro i x hx hp
    have hb := idx_bd hx
    simp only [rf_MoveAt_L1, rf_MoveAt_J2]
    rw [if_pos (by simpa using hb.2), asrt_pos hb, getd_some hx, if_pos ((mv3 x a b c).2 (of_decide_eq_true hp))]
  · intro i x hx hp
    have hb := idx_bd hx
    simp only [rf_MoveAt_L1, rf_MoveAt_J2]
    rw [if_pos (by simpa using hb.2), asrt_pos hb, getd_some hx, if_neg (fun q => of_decide_eq_false hp ((mv3 x a b c).1 q))]
    simp only [rf_MoveAt_J3]
    rw [w64_succ (by omega)]
  · simp only [rf_MoveAt_L1]
    rw [if_neg (by simp)]
theorem midx_mem {l : List Mv} {m : Mv} (h : 0 ≤ midx l m) : m ∈ l := by
  unfold midx at h
  rw [fidx_neg, List.any_eq_true] at h
  obtain ⟨x, hx, e⟩ := h
  rw [of_decide_eq_true e] at hx
  exact hx

theorem sameMoves_self {l : List Mv} (hl : l.length ≤ 1000000) : lw_sameMoves_m l l = some true := by
  unfold lw_sameMoves_m lw_sameMoves_J1
  rw [if_neg (by simp)]
  have : loop (lw_sameMoves_L1 l l) 0 = some (Fl.go ()) := by
    refine loop_from (fun n : Nat => (n : Int)) l.length rfl (fun i hi => ?_) ?_
    · simp only [lw_sameMoves_L1]
      rw [if_pos (decide_eq_true (by omega))]
      unfold lw_sameMoves_J3 lw_sameMoves_J4
      rw [asrt_pos (by omega), asrt_pos (by omega), if_neg (by simp), w64_succ (by omega)]
      rfl
    · simp only [lw_sameMoves_L1]
      exact if_neg (by simp)
  rw [this, Option.bind_some]
  rfl

section
variable {p : List Int} {t c e h f : Int}

theorem Inv.king (I : Inv p t c e h f) (s : Int) (hs : s = 0 ∨ s = 1) : ∃ b : Nat, b < 64 ∧ geti p b = kingV s := by
  obtain ⟨k, h1, h2⟩ := I.kg s hs
  exact ⟨k, h1, (h2 k h1).2 rfl⟩

theorem result_both (I : Inv p t c e h f) (hm : board_May_m p t c e h f = some true) : ∃ r : Int, moves_Result_m p t c e h f = some (r, 0) ∧ rf_ResultOf_m p t c e h f = some r := by
  obtain ⟨m, d, k1, k2⟩ := material_both I.sm t c e h f
  have hck := check_both I.sm I.tt (I.king t I.tt)
  have hl := refL_len I
  unfold moves_Result_m chess_Material_m chess_May_m
  rw [hm]
  simp only [Option.bind_some, Bool.not_true, Bool.false_eq_true, if_false]
  rw [k1]
  simp only [Option.bind_some]
  rw [if_neg (by decide)]
  unfold moves_Result_J1 rf_ResultOf_m rf_ResultOf_J1 rf_ResultOf_J2 rf_ResultOf_J3 rf_ResultOf_J4 moves_Result_J2
  rw [moves_p I, all_p I, hck.1, hck.2, k2]
  simp only [Option.bind_some]
  by_cases h0 : (refL p t c e).length = 0
  · have e0 : (((refL p t c e).length : Int) == 0) = true := by simp [h0]
    rw [e0]
    simp only [if_true, Option.bind_some, Bool.true_and]
    cases inChk p t with
    | true => exact ⟨1, rfl, rfl⟩
    | false => exact ⟨2, rfl, rfl⟩
  · have e0 : (((refL p t c e).length : Int) == 0) = false := by simpa using h0
    rw [e0]
    simp only [Bool.false_eq_true, if_false, Option.bind_some, Bool.false_and]
    cases d with
    | true => exact ⟨3, rfl, rfl⟩
    | false =>
      simp only [Bool.false_eq_true, if_false]
      by_cases hh : (100 : Int) ≤ h
      · rw [decide_eq_true hh]; exact ⟨4, rfl, rfl⟩
      · rw [decide_eq_false hh]; exact ⟨0, rfl, rfl⟩

theorem do_no (I : Inv p t c e h f) (hm : board_May_m p t c e h f = some true) (m1 m2 m3 : Int) : moves_Do_m p t c e h f m1 m2 m3 = if 0 ≤ midx (refL p t c e) (m1, m2, m3) then moves_Do_J1 p t c e h f m1 m2 m3 else some ([], 0, 0, 0, 0, 0, 8) := by
  have hl := refL_len I
  unfold moves_Do_m
  rw [hm]
  simp only [Option.bind_some, Bool.not_true, Bool.false_eq_true, if_false]
  rw [moves_p I, Option.bind_some]
  unfold api_Move_3_m moves_Do_J2
  rw [moveIdx_p (by omega)]
  simp only [Option.bind_some]
  by_cases hq : 0 ≤ midx (refL p t c e) (m1, m2, m3)
  · rw [if_pos hq, decide_eq_true hq]; rfl
  · rw [if_neg hq, decide_eq_false hq]; rfl

theorem true_MovesDoes (p : List Int) (p2 p3 p4 p5 p6 m1 m2 m3 : Int) (hl : p.length ≤ 17592186043904) (hin : ∀ y ∈ p, inI y) (_h2 : inI p2) (_h3 : inI p3) (_h4 : inI p4) (_h5 : inI p5) (_h6 : inI p6) (_h7 : inI m1) (_h8 : inI m2) (_h9 : inI m3) : lw_MovesDoes_m p p2 p3 p4 p5 p6 m1 m2 m3 = some true := by
  unfold lw_MovesDoes_m
  rw [chessOf_any hl]
  simp only [Option.bind_some]
  obtain ⟨b, q1, q2, _⟩ := may_both hin p2 p3 p4 p5 p6
  cases b with
  | false =>
    unfold moves_All_m moves_Do_m
    rw [q1]
    simp only [Option.bind_some, Bool.not_false, if_true]
    unfold lw_MovesDoes_J1 moves_Result_m chess_Material_m chess_May_m
    rw [chessOf_any hl]
    simp only [Option.bind_some]
    rw [q1, q2]
    rfl
  | true =>
    have I := may_inv hin q1
    have hrl := refL_len I
    unfold moves_All_m moves_All_J1
    rw [q1, moves_p I, do_no I q1]
    simp only [Option.bind_some, Bool.not_true, Bool.false_eq_true, if_false]
    obtain ⟨r, r1, r2⟩ := result_both I q1
    have tail : ∀ (x1 : List Int) (x2 x3 x4 x5 x6 f1 : Int), lw_MovesDoes_J1 p p2 p3 p4 p5 p6 m1 m2 m3 (refL p p2 p3 p4, 0) x1 x2 x3 x4 x5 x6 f1 = lw_MovesDoes_J3 p p2 p3 p4 p5 p6 m1 m2 m3 x1 x2 x3 x4 x5 x6 f1 (refL p p2 p3 p4) := by
      intro x1 x2 x3 x4 x5 x6 f1
      unfold lw_MovesDoes_J1
      rw [chessOf_any hl]
      simp only [Option.bind_some]
      rw [r1, q2]
      simp only [Option.bind_some, Bool.not_true, Bool.false_eq_true, if_false]
      unfold lw_MovesDoes_J2
      rw [all_p I, r2]
      simp only [Option.bind_some]
      rw [sameMoves_self (by omega)]
      simp
    by_cases hq : 0 ≤ midx (refL p p2 p3 p4) (m1, m2, m3)
    · rw [if_pos hq]
      obtain ⟨q, t', c', e', h', f', a1, a2, I', _⟩ := step_p I (midx_mem hq)
      unfold moves_Do_J1
      rw [a1]
      simp only [Option.bind_some]
      rw [tail]
      unfold lw_MovesDoes_J3 lw_MovesDoes_J4 lw_MovesDoes_J5
      rw [moveAt_p (by omega), Option.bind_some, if_neg (by simpa using hq)]
      rw [if_pos (by decide), a2]
      simp only [Option.bind_some]
      unfold rf_SameChess_m
      rw [sameInts_eq (by rw [I'.len]; omega)]
      simp
    · rw [if_neg hq]
      simp only [Option.bind_some]
      rw [tail]
      unfold lw_MovesDoes_J3
      rw [moveAt_p (by omega), Option.bind_some, if_pos (decide_eq_true (by omega))]
      rfl
end
end Go.Proofs.Ytfmmlmiakkjaiaa
