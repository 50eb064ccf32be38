/-
  DominoSets: how many rows there are, as one sum; the program's count.
-/
import Derived.Test.YtnplejebgbdfpaaNDS
import Derived.Test.YtnplejebgbdfpaaLibX
import Derived.Test.YtnplejebgbdfpaaLibY
import Derived.Test.YtnplejebgbdfpaaLibT
import Derived.Test.YtnplejebgbdfpaaVA
namespace Go.Proofs.Ytnplejebgbdfpaa
open Go Go.GL

/-- A piece, the lesser end first. -/
def kx (a b : Int) : Int × Int := (minI a b, maxI a b)
theorem kx_eq {a b c d : Int} : kx a b = kx c d ↔ (a = c ∧ b = d) ∨ (a = d ∧ b = c) := by
  unfold kx minI maxI
  rw [Prod.mk.injEq]
  repeat' split
  all_goals omega
theorem kx_comm (a b : Int) : kx a b = kx b a := kx_eq.2 (Or.inr ⟨rfl, rfl⟩)

def dec (m : Int × Int → Int) (q : Int × Int) : Int × Int → Int := fun q' => if q' = q then m q - 1 else m q'

/-- How many rows of k pieces go on from e. -/
def Rr : Nat → (Int × Int → Int) → Int → Int
  | 0, _, _ => 1
  | k + 1, m, e => sm 10 (fun b => sm 10 (fun a => if (e < 0 ∨ (a : Int) = e) ∧ m (kx a b) ≠ 0 then Rr k (dec m (kx a b)) b else 0))

theorem Rr_bd : ∀ (k : Nat) (m : Int × Int → Int) (e : Int), 0 ≤ Rr k m e ∧ Rr k m e ≤ ((100 ^ k : Nat) : Int)
  | 0, _, _ => ⟨by show (0 : Int) ≤ 1; omega, by show (1 : Int) ≤ ((1 : Nat) : Int); omega⟩
  | k + 1, m, e => by
    have h1 : ∀ b : Nat, 0 ≤ sm 10 (fun a => if (e < 0 ∨ (a : Int) = e) ∧ m (kx a b) ≠ 0 then Rr k (dec m (kx a b)) b else 0) ∧ sm 10 (fun a => if (e < 0 ∨ (a : Int) = e) ∧ m (kx a b) ≠ 0 then Rr k (dec m (kx a b)) b else 0) ≤ ((100 ^ k : Nat) : Int) * 10 := fun b => by
      have := sm_bd (f := fun a : Nat => if (e < 0 ∨ (a : Int) = e) ∧ m (kx a b) ≠ 0 then Rr k (dec m (kx a b)) b else 0) (a := 0) (b := ((100 ^ k : Nat) : Int)) 10 (fun a _ => by
        have := Rr_bd k (dec m (kx a b)) b
        split
        · exact this
        · omega)
      omega
    have h2 := sm_bd (f := fun b : Nat => sm 10 (fun a => if (e < 0 ∨ (a : Int) = e) ∧ m (kx a b) ≠ 0 then Rr k (dec m (kx a b)) b else 0)) (a := 0) (b := ((100 ^ k : Nat) : Int) * 10) 10 (fun b _ => h1 b)
    have e1 : (100 : Nat) ^ (k + 1) = 100 ^ k * 100 := rfl
    show 0 ≤ sm 10 _ ∧ sm 10 _ ≤ _
    rw [e1]
    omega

theorem pow_bd {k : Nat} (h : k ≤ 6) : (100 : Nat) ^ k ≤ 1000000000000 := Nat.le_trans (Nat.pow_le_pow_right (by decide) h) (by decide)

/-- The program's count; the counts are left as they were. -/
theorem cnt_p : ∀ (f k : Nat) (m : Int × Int → Int) (z : List ((Int × Int) × Int)) (e : Int), k < f → k ≤ 7 → (∀ q, mget (0 : Int) q z = m q) → (∀ q, 0 ≤ m q ∧ m q ≤ 100) →
    ∃ z', domino_Rows_1_mF f e k z = some (Rr k m e, z') ∧ ∀ q, mget (0 : Int) q z' = m q
  | 0, k, _, _, _, h, _, _, _ => by omega
  | f + 1, 0, m, z, e, _, _, hz, _ => ⟨z, by
      show domino_Rows_1_B (domino_Rows_1_mF f) e ((0 : Nat) : Int) z = _
      unfold domino_Rows_1_B
      rw [if_pos (by decide)]; rfl, hz⟩
  | f + 1, k + 1, m, z, e, hf, hk, hz, hm => by
    have ih := cnt_p f k
    have pb := pow_bd (show k ≤ 6 by omega)
    obtain ⟨F, hF⟩ : ∃ F : Nat → Nat → Int, F = (fun (b a : Nat) => if (e < 0 ∨ (a : Int) = e) ∧ m (kx (a : Int) (b : Int)) ≠ 0 then Rr k (dec m (kx (a : Int) (b : Int))) (b : Int) else 0) := ⟨_, rfl⟩
    have Fb : ∀ b a, 0 ≤ F b a ∧ F b a ≤ 1000000000000 := fun b a => by
      have := Rr_bd k (dec m (kx a b)) b
      rw [hF]
      dsimp only
      split <;> omega
    have Sb : ∀ b n, 0 ≤ sm n (F b) ∧ sm n (F b) ≤ 1000000000000 * n := fun b n => by
      have := sm_bd (f := F b) (a := 0) (b := 1000000000000) n (fun a _ => Fb b a)
      omega
    have Tb : ∀ n, 0 ≤ sm n (fun b => sm 10 (F b)) ∧ sm n (fun b => sm 10 (F b)) ≤ 10000000000000 * n := fun n => by
      have := sm_bd (f := fun b => sm 10 (F b)) (a := 0) (b := 10000000000000) n (fun b _ => by have := Sb b 10; omega)
      omega
    have inner : ∀ (b : Nat) (z : List ((Int × Int) × Int)) (n : Int), b < 10 → (∀ q, mget (0 : Int) q z = m q) → 0 ≤ n → n ≤ 100000000000000 →
        ∃ z', loop (domino_Rows_1_L2 (domino_Rows_1_mF f) e ((k + 1 : Nat) : Int) b) (z, n, 0) = some (z', n + sm 10 (F b)) ∧ ∀ q, mget (0 : Int) q z' = m q := fun b z n hb hz h0 h1 => by
      obtain ⟨r, er, z', rfl, hz'⟩ := count_loop (step := domino_Rows_1_L2 (domino_Rows_1_mF f) e ((k + 1 : Nat) : Int) b) (fun (x : List ((Int × Int) × Int) × Int) (a : Nat) => (x.1, x.2, (a : Int)))
        (fun a x => x.2 = n + sm a (F b) ∧ ∀ q, mget (0 : Int) q x.1 = m q) (fun r => ∃ z', r = (z', n + sm 10 (F b)) ∧ ∀ q, mget (0 : Int) q z' = m q) 10 (z, n) ⟨by show n = n + 0; omega, hz⟩ (by
        rintro a ⟨z, v⟩ ha ⟨hv, hz⟩
        dsimp only at hv hz
        left
        have sb := Sb b a
        have sb2 := Sb b (a + 1)
        rw [sm_succ] at sb2
        simp only [domino_Rows_1_L2, domino_Rows_1_J5]
        rw [if_pos (decide_eq_true (by omega)), show (minI (a : Int) (b : Int), maxI (a : Int) (b : Int)) = kx a b from rfl, hz]
        have skip : F b a = 0 → ∃ s' : List ((Int × Int) × Int) × Int, domino_Rows_1_J6 (a : Int) z v = some (.next (s'.1, s'.2, ((a + 1 : Nat) : Int))) ∧ s'.2 = n + sm (a + 1) (F b) ∧ ∀ q, mget (0 : Int) q s'.1 = m q := fun h0 => ⟨(z, v), by
          unfold domino_Rows_1_J6
          rw [w64_of (by omega)]; rfl, by dsimp only; rw [sm_succ, h0, hv]; omega, hz⟩
        by_cases q1 : 0 ≤ e ∧ (a : Int) ≠ e
        · have hc : ((decide ((0 : Int) ≤ e)) && ((a : Int) != e)) = true := by rw [Bool.and_eq_true, bne_iff_ne]; exact ⟨decide_eq_true q1.1, q1.2⟩
          rw [hc, if_pos rfl]
          unfold domino_Rows_1_J8
          rw [if_pos (by decide)]
          exact skip (by rw [hF]; dsimp only; rw [if_neg (by omega)])
        · have hc : ((decide ((0 : Int) ≤ e)) && ((a : Int) != e)) = false := by
            rw [Bool.eq_false_iff]; intro w; rw [Bool.and_eq_true, bne_iff_ne, decide_eq_true_eq] at w; exact q1 w
          rw [hc, if_neg (by decide), Bool.false_or]
          unfold domino_Rows_1_J8
          by_cases q2 : m (kx a b) = 0
          · rw [if_pos (by rw [beq_iff_eq]; exact q2)]
            exact skip (by rw [hF]; dsimp only; rw [if_neg (fun w => w.2 q2)])
          · rw [if_neg (by rw [beq_iff_eq]; exact q2)]
            have mb := hm (kx a b)
            unfold domino_Rows_1_J7 domino_Rows_1_J9
            rw [show (minI (a : Int) (b : Int), maxI (a : Int) (b : Int)) = kx a b from rfl, hz, w64_of (x := ((k + 1 : Nat) : Int) - 1) (by omega), show ((k + 1 : Nat) : Int) - 1 = (k : Int) by omega, w64_of (x := m (kx a b) - 1) (by omega)]
            obtain ⟨z2, e2, hz2⟩ := ih (dec m (kx a b)) (mput (kx a b) (m (kx a b) - 1) z) (b : Int) (by omega) (by omega) (fun q => by
              rw [mget_mput]
              unfold dec
              by_cases w : q = kx a b
              · rw [if_pos w, if_pos w]
              · rw [if_neg w, if_neg w, hz]) (fun q => by
              unfold dec
              have := hm q
              split <;> omega)
            have hFa : F b a = Rr k (dec m (kx a b)) b := by rw [hF]; dsimp only; rw [if_pos ⟨by omega, q2⟩]
            have fb := Fb b a
            have h2 : mget (0 : Int) (kx a b) z2 = m (kx a b) - 1 := by rw [hz2]; unfold dec; rw [if_pos rfl]
            rw [e2, Option.bind_some]
            dsimp only
            rw [h2, show m (kx a b) - 1 + 1 = m (kx a b) by omega, w64_of (x := m (kx a b)) (by omega), ← hFa, w64_of (x := v + F b a) (by omega)]
            unfold domino_Rows_1_J6
            refine ⟨(mput (kx a b) (m (kx a b)) z2, v + F b a), by rw [w64_of (by omega)]; rfl, by dsimp only; rw [sm_succ, hv]; omega, fun q => ?_⟩
            dsimp only
            rw [mget_mput]
            by_cases w : q = kx a b
            · rw [if_pos w, w]
            · rw [if_neg w, hz2]
              unfold dec
              rw [if_neg w]) (by
        rintro ⟨z, v⟩ ⟨hv, hz⟩
        dsimp only at hv hz
        refine ⟨(z, v), ?_, z, by rw [hv], hz⟩
        simp only [domino_Rows_1_L2]
        rw [if_neg (by decide)])
      exact ⟨z', er, hz'⟩
    obtain ⟨r, er, z', rfl, hz'⟩ := count_loop (step := domino_Rows_1_L1 (domino_Rows_1_mF f) e ((k + 1 : Nat) : Int)) (fun (x : List ((Int × Int) × Int) × Int) (b : Nat) => (x.1, x.2, (b : Int)))
      (fun b x => x.2 = sm b (fun b => sm 10 (F b)) ∧ ∀ q, mget (0 : Int) q x.1 = m q) (fun r => ∃ z', r = (sm 10 (fun b => sm 10 (F b)), z') ∧ ∀ q, mget (0 : Int) q z' = m q) 10 (z, 0) ⟨rfl, hz⟩ (by
      rintro b ⟨z, v⟩ hb ⟨hv, hz⟩
      dsimp only at hv hz
      left
      have tb := Tb b
      obtain ⟨z', e1, hz'⟩ := inner b z v hb hz (by omega) (by omega)
      refine ⟨(z', v + sm 10 (F b)), ?_, by dsimp only; rw [hv]; rfl, hz'⟩
      simp only [domino_Rows_1_L1, domino_Rows_1_J3]
      rw [if_pos (decide_eq_true (by omega)), e1, Option.bind_some]
      simp only [domino_Rows_1_K2, domino_Rows_1_J4]
      rw [w64_of (by omega)]; rfl) (by
      rintro ⟨z, v⟩ ⟨hv, hz⟩
      dsimp only at hv hz
      refine ⟨(v, z), ?_, z, by rw [hv], hz⟩
      simp only [domino_Rows_1_L1]
      rw [if_neg (by decide)])
    refine ⟨z', ?_, hz'⟩
    show domino_Rows_1_B (domino_Rows_1_mF f) e ((k + 1 : Nat) : Int) z = _
    unfold domino_Rows_1_B
    rw [if_neg (by rw [beq_iff_eq]; omega)]
    unfold domino_Rows_1_J1
    have er' : loop (domino_Rows_1_L1 (domino_Rows_1_mF f) e ((k + 1 : Nat) : Int)) (z, 0, 0) = some (sm 10 (fun b => sm 10 (F b)), z') := er
    rw [er', Option.bind_some]
    simp only [domino_Rows_1_K1, domino_Rows_1_J2]
    rw [hF]; rfl
end Go.Proofs.Ytnplejebgbdfpaa
