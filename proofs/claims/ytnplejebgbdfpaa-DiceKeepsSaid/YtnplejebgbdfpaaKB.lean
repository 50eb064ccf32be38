/-
  DiceKeeps: what the program and the reference reckon, and the law.
-/
import Derived.Test.YtnplejebgbdfpaaNK
import Derived.Test.YtnplejebgbdfpaaKA
import Derived.Test.YtnplejebgbdfpaaLibY
import Derived.Test.YtnplejebgbdfpaaLibT
namespace Go.Proofs.Ytnplejebgbdfpaa
open Go Go.GL

theorem sameInts_eq {a b : List Int} (ha : a.length ≤ 17592186044416) : gameroomlaw_sameInts_m a b = some (decide (a = b)) := by
  unfold gameroomlaw_sameInts_m
  by_cases hl : a.length = b.length
  · rw [if_neg (by simp [hl])]
    unfold gameroomlaw_sameInts_J1
    have h := count_loop (step := gameroomlaw_sameInts_L1 a b) (fun (_ : Unit) k => (k : Int)) (fun k _ => ∀ i, i < k → a[i]? = b[i]?) (fun r => gameroomlaw_sameInts_K1 r = some (decide (a = b))) a.length () (fun i hi => by omega) ?_ ?_
    · obtain ⟨r, h1, h2⟩ := h
      have h1' : loop (gameroomlaw_sameInts_L1 a b) 0 = some r := h1
      rw [h1']
      exact h2
    · intro i _ hi hI
      obtain ⟨x, hx⟩ : ∃ x, a[i]? = some x := ⟨_, List.getElem?_eq_getElem hi⟩
      obtain ⟨y, hy⟩ : ∃ y, b[i]? = some y := ⟨_, List.getElem?_eq_getElem (by omega)⟩
      simp only [gameroomlaw_sameInts_L1, gameroomlaw_sameInts_J3]
      rw [if_pos (by simpa using hi), asrt_pos (idx_bd hx), asrt_pos (idx_bd hy), geti_some hx, geti_some hy]
      by_cases hxy : x = y
      · left
        rw [if_neg (by simp [hxy])]
        refine ⟨(), by simp only [gameroomlaw_sameInts_J4]; rw [w64_succ (by omega)]; rfl, fun j hj => ?_⟩
        by_cases hji : j = i
        · subst hji; rw [hx, hy, hxy]
        · exact hI j (by omega)
      · right
        rw [if_pos (by simp [hxy])]
        refine ⟨_, rfl, ?_⟩
        have hne : a ≠ b := fun h => hxy (by rw [h, hy] at hx; exact (Option.some.inj hx).symm)
        simp [gameroomlaw_sameInts_K1, hne]
    · intro _ hI
      refine ⟨Fl.go (), ?_, ?_⟩
      · simp only [gameroomlaw_sameInts_L1]
        rw [if_neg (by simp)]
      · have : a = b := by
          apply List.ext_getElem?
          intro i
          by_cases hi : i < a.length
          · exact hI i hi
          · rw [List.getElem?_eq_none (by omega), List.getElem?_eq_none (by omega)]
        simp [gameroomlaw_sameInts_K1, gameroomlaw_sameInts_J2, this]
  · rw [if_pos (by simp; omega)]
    have : a ≠ b := fun h => hl (by rw [h])
    simp [this]
theorem w64_eq (x : Int) : w64 x = (x + 9223372036854775808) % 18446744073709551616 - 9223372036854775808 := IntKind.wrap_i64 x
theorem w64_off (x t : Int) : w64 (x - 18446744073709551616 * t) = w64 x := by rw [w64_eq, w64_eq]; omega
theorem w64_form (x : Int) : ∃ q, w64 x = x - 18446744073709551616 * q := ⟨(x + 9223372036854775808) / 18446744073709551616, by rw [w64_eq]; omega⟩
theorem w64_w64 (x : Int) : w64 (w64 x) = w64 x := by
  obtain ⟨q, h⟩ := w64_form x
  rw [h, w64_off, h]
theorem w64_addl (a b : Int) : w64 (w64 a + b) = w64 (a + b) := by
  obtain ⟨q, h⟩ := w64_form a
  rw [h, show a - 18446744073709551616 * q + b = (a + b) - 18446744073709551616 * q by omega, w64_off]
theorem w64_addr (a b : Int) : w64 (a + w64 b) = w64 (a + b) := by rw [Int.add_comm, w64_addl, Int.add_comm]
theorem w64_mull (a b : Int) : w64 (w64 a * b) = w64 (a * b) := by
  obtain ⟨q, h⟩ := w64_form a
  rw [h, Int.sub_mul, Int.mul_assoc, w64_off]

theorem ch_next {n i : Nat} (hn : n ≤ 10) (hi : i ≤ n) : w64 (Int.tdiv (w64 ((ch n i : Int) * w64 ((n : Int) - i))) (w64 ((i : Int) + 1))) = (ch n (i + 1) : Int) ∧ (ch n i : Int) ≤ 252 := by
  obtain ⟨h1, h2⟩ := ch_tab ⟨n, by omega⟩ ⟨i, by omega⟩ hi
  simp only at h1 h2
  have hb : ch n i * (n - i) ≤ 252 * 10 := Nat.mul_le_mul h2 (by omega)
  have hb2 : ch n i * (n - i) / (i + 1) ≤ 252 * 10 := Nat.le_trans (Nat.div_le_self _ _) hb
  have e : ((ch n i : Int) * ((n : Int) - i)) = ((ch n i * (n - i) : Nat) : Int) := by
    rw [Int.natCast_mul, Int.natCast_sub hi]
  rw [w64_of (x := (n : Int) - i) (by omega), e, w64_of (x := ((ch n i * (n - i) : Nat) : Int)) (by omega), w64_of (x := (i : Int) + 1) (by omega), Int.tdiv_eq_ediv_of_nonneg (by omega)]
  have e2 : (((ch n i * (n - i) : Nat) : Int)) / ((i : Int) + 1) = ((ch n i * (n - i) / (i + 1) : Nat) : Int) := by
    rw [Int.natCast_ediv]; rfl
  rw [e2, h1] at *
  refine ⟨w64_of (by omega), by omega⟩

theorem share_p (K S : Nat) (hK : K ≤ 10) (hS : S ≤ 20) : ∀ (g n : Nat) (kept sum M : Int) (out : List Int), n ≤ 10 → g ≤ S → 0 ≤ kept ∧ kept ≤ K → (K : Int) ≤ kept + n → kept ≤ sum → sum ≤ kept * S → ((out.length : Int) = (K : Int) * S - K + 1) → (∀ j : Nat, j < out.length → w64 (geti out j) = geti out j) →
    ∃ out', dice_Keep_1_mF (g + 1) g n kept sum (w64 M) out K = some out' ∧ out'.length = out.length ∧ (∀ j : Nat, j < out.length → w64 (geti out' j) = geti out' j) ∧ ∀ j : Nat, j < out.length → geti out' j = w64 (geti out j + M * cnt g n ((K : Int) - kept).toNat ((j : Int) + K - sum)) := by
  intro g
  induction g with
  | zero =>
    intro n kept sum M out hn hg hk hkn hs1 hs2 hl hw
    show ∃ out', dice_Keep_1_B (dice_Keep_1_mF 0) ((0 : Nat) : Int) n kept sum (w64 M) out K = some out' ∧ _
    unfold dice_Keep_1_B dice_Keep_1_J3
    rw [if_pos (by simp)]
    have hKS : kept * (S : Int) ≤ K * (S : Int) := Int.mul_le_mul_of_nonneg_right hk.2 (by omega)
    have hKS2 : (K : Int) * (S : Int) ≤ 10 * 20 := Int.mul_le_mul (by omega) (by omega) (by omega) (by omega)
    by_cases h : n = 0
    · subst h
      rw [if_pos (by simp)]
      have hkk : kept = K := by omega
      have hi : 0 ≤ sum - K ∧ sum - K < out.length := by omega
      rw [w64_of (x := sum - (K : Int)) (by omega), asrt_pos hi, asrt_pos hi]
      refine ⟨_, rfl, by simp, fun j hj => ?_, fun j hj => ?_⟩
      · rw [geti_set' (by omega) (by omega)]
        split
        · exact w64_w64 _
        · exact hw j hj
      · rw [geti_set' (by omega) (by omega)]
        unfold cnt
        by_cases e : (j : Int) = sum - K
        · rw [if_pos (by omega), if_pos ⟨rfl, by omega⟩, w64_addr, e, Int.mul_one]
        · rw [if_neg (by omega), if_neg (by omega), Int.mul_zero, Int.add_zero, hw j hj]
    · rw [if_neg (by simp; omega)]
      refine ⟨out, rfl, rfl, hw, fun j hj => ?_⟩
      unfold cnt
      rw [if_neg (fun e => h e.1), Int.mul_zero, Int.add_zero, hw j hj]
  | succ g ih =>
    intro n kept sum M out hn hg hk hkn hs1 hs2 hl hw
    show ∃ out', dice_Keep_1_B (dice_Keep_1_mF (g + 1)) ((g + 1 : Nat) : Int) n kept sum (w64 M) out K = some out' ∧ _
    unfold dice_Keep_1_B
    rw [if_neg (by simp; omega)]
    unfold dice_Keep_1_J2
    have hkS : kept * (S : Int) ≤ 10 * 20 := Int.mul_le_mul (by omega) (by omega) (by omega) (by omega)
    generalize hcap : ((K : Int) - kept).toNat = cap
    have hcapI : (cap : Int) = K - kept := by omega
    have key := count_loop (step := dice_Keep_1_L1 (dice_Keep_1_mF (g + 1)) ((g + 1 : Nat) : Int) n kept sum (w64 M) K) (fun (s : List Int) (i : Nat) => (s, (ch n i : Int), (i : Int)))
      (fun i s => s.length = out.length ∧ (∀ j : Nat, j < out.length → w64 (geti s j) = geti s j) ∧ ∀ j : Nat, j < out.length → geti s j = w64 (geti out j + M * sm i (fun x => (ch n x : Int) * cnt g (n - x) (cap - min x cap) ((j : Int) + K - sum - (min x cap : Nat) * ((g : Int) + 1)))))
      (fun r => r.length = out.length ∧ (∀ j : Nat, j < out.length → w64 (geti r j) = geti r j) ∧ ∀ j : Nat, j < out.length → geti r j = w64 (geti out j + M * cnt (g + 1) n cap ((j : Int) + K - sum))) (n + 1) out ⟨rfl, hw, fun j hj => by simp only [sm]; rw [Int.mul_zero, Int.add_zero, hw j hj]⟩ (by
        rintro i s hi ⟨h1, h2, h3⟩
        left
        have hmin : minI (i : Int) (cap : Int) = ((min i cap : Nat) : Int) := by
          unfold minI
          split <;> omega
        generalize hm : min i cap = m at hmin
        have hmc : m ≤ cap ∧ m ≤ i := by omega
        have hm1 : (m : Int) ≤ (m : Int) * ((g : Int) + 1) := by
          have := Int.mul_le_mul_of_nonneg_left (show (1 : Int) ≤ (g : Int) + 1 by omega) (show (0 : Int) ≤ (m : Int) by omega)
          omega
        have hm2 : (m : Int) * ((g : Int) + 1) ≤ (m : Int) * S := Int.mul_le_mul_of_nonneg_left (by omega) (by omega)
        have hm3 : (m : Int) * S ≤ 10 * 20 := Int.mul_le_mul (by omega) (by omega) (by omega) (by omega)
        obtain ⟨s', k1, k2, k3, k4⟩ := ih (n - i) (kept + m) (sum + m * ((g : Int) + 1)) (M * (ch n i : Int)) s (by omega) (by omega) (by omega) (by omega) (by omega) (by rw [Int.add_mul]; omega) (by rw [h1]; exact hl) (fun j hj => h2 j (by omega))
        obtain ⟨c1, c2⟩ := ch_next hn (show i ≤ n by omega)
        refine ⟨s', ?_, by omega, fun j hj => k3 j (by omega), fun j hj => ?_⟩
        · simp only [dice_Keep_1_L1]
          rw [if_pos (decide_eq_true (by omega))]
          unfold dice_Keep_1_J4 dice_Keep_1_J5
          rw [w64_of (x := (K : Int) - kept) (by omega), ← hcapI, hmin, w64_of (x := ((g + 1 : Nat) : Int) - 1) (by omega), w64_of (x := (n : Int) - i) (by omega), w64_of (x := kept + (m : Int)) (by omega), show ((g + 1 : Nat) : Int) = (g : Int) + 1 by omega, w64_of (x := (m : Int) * ((g : Int) + 1)) (by omega), w64_of (x := sum + (m : Int) * ((g : Int) + 1)) (by omega), w64_mull,
            show (g : Int) + 1 - 1 = (g : Int) by omega, show (n : Int) - i = ((n - i : Nat) : Int) by omega, k1, Option.bind_some, asrt_pos (by rw [w64_of (by omega)]; omega), show ((n - i : Nat) : Int) = (n : Int) - i by omega]
          rw [w64_of (x := (n : Int) - i) (by omega)] at c1
          rw [c1, w64_of (x := (i : Int) + 1) (by omega)]
          rfl
        · have e5 : (j : Int) + K - (sum + (m : Int) * ((g : Int) + 1)) = (j : Int) + K - sum - (m : Int) * ((g : Int) + 1) := by omega
          rw [k4 j (by omega), h3 j hj, w64_addl, sm_succ, show ((K : Int) - (kept + m)).toNat = cap - m by omega, hm, e5, Int.mul_add M, Int.add_assoc, Int.mul_assoc M]) (by
        rintro s ⟨h1, h2, h3⟩
        refine ⟨s, ?_, h1, h2, h3⟩
        simp only [dice_Keep_1_L1]
        rw [if_neg (by simp; omega)])
    obtain ⟨r, hr, h1, h2, h3⟩ := key
    have hr' : loop (dice_Keep_1_L1 (dice_Keep_1_mF (g + 1)) ((g + 1 : Nat) : Int) n kept sum (w64 M) K) (out, 1, 0) = some r := by
      have e : ((ch n 0 : Nat) : Int) = 1 := by cases n <;> rfl
      rw [← e]; exact hr
    rw [hr']
    exact ⟨r, rfl, h1, h2, h3⟩

theorem ways_p (S n : Nat) (hS : 1 ≤ S ∧ S ≤ 20) (hn : n ≤ 10) : ∃ v, dice_ways_m S n = some v ∧ gameroomref_allWays_m S n = some v ∧ (v = 0 ∨ (v = ((S ^ n : Nat) : Int) ∧ S ^ n ≤ 100000)) := by
  have e : gameroomref_allWays_m S n = dice_ways_m S n := rfl
  rw [e]
  unfold dice_ways_m
  have key := count_loop (step := dice_ways_L1 S n) (fun (s : Int) (i : Nat) => (s, (i : Int))) (fun i s => s = ((S ^ i : Nat) : Int) ∧ S ^ i ≤ 100000) (fun r => r = .ret 0 ∨ (r = .go ((S ^ n : Nat) : Int) ∧ S ^ n ≤ 100000)) n 1 ⟨rfl, by simp⟩ (by
    rintro i s hi ⟨rfl, h2⟩
    have hb : S ^ i * S ≤ 100000 * 20 := Nat.mul_le_mul h2 (by omega)
    have e1 : ((S ^ i : Nat) : Int) * (S : Int) = ((S ^ (i + 1) : Nat) : Int) := by rw [Nat.pow_succ, Int.natCast_mul]
    have e2 : dice_ways_L1 S n (((S ^ i : Nat) : Int), (i : Int)) = dice_ways_J2 S ((S ^ i : Nat) : Int) i := if_pos (decide_eq_true (by omega))
    rw [e2]
    unfold dice_ways_J2 dice_ways_J3
    rw [e1, w64_of (x := ((S ^ (i + 1) : Nat) : Int)) (by rw [Nat.pow_succ]; omega), w64_of (x := (i : Int) + 1) (by omega)]
    by_cases h : (100000 : Int) < ((S ^ (i + 1) : Nat) : Int)
    · right
      exact ⟨.ret 0, by rw [if_pos (decide_eq_true h)], Or.inl rfl⟩
    · left
      exact ⟨_, by rw [if_neg (by simpa using h)]; rfl, rfl, by omega⟩) (by
    rintro s ⟨rfl, h2⟩
    exact ⟨.go ((S ^ n : Nat) : Int), by simp only [dice_ways_L1]; rw [if_neg (by simp)], Or.inr ⟨rfl, h2⟩⟩)
  obtain ⟨r, hr, h⟩ := key
  have hr' : loop (dice_ways_L1 S n) (1, 0) = some r := hr
  rw [hr']
  rcases h with rfl | ⟨rfl, h⟩
  · exact ⟨0, rfl, rfl, Or.inl rfl⟩
  · exact ⟨_, rfl, rfl, Or.inr ⟨rfl, h⟩⟩

theorem dig_p (S N : Nat) (hS : 1 ≤ S ∧ S ≤ 20) (hN : N ≤ 10) : ∀ (m i x : Nat) (sh : List Int), i + m = N → x ≤ 100000 → sh.length = S + 1 → (∀ v : Nat, v ≤ S → 0 ≤ geti sh v ∧ geti sh v ≤ i) →
    ∃ sh', loop (gameroomref_KeepWays_L2 N S) (x, sh, i) = some sh' ∧ sh'.length = S + 1 ∧ ∀ v : Nat, v < S → geti sh' ((v : Int) + 1) = geti sh ((v : Int) + 1) + ((digs S m x).count v : Int) := by
  intro m
  induction m with
  | zero =>
    intro i x sh hi hx hl hv
    refine ⟨sh, loop_done ?_, hl, fun v hv => by simp [digs]⟩
    simp only [gameroomref_KeepWays_L2]
    rw [if_neg (by simp; omega)]
  | succ m ih =>
    intro i x sh hi hx hl hv
    have hm := Nat.mod_lt x (show 0 < S by omega)
    have hdx : x / S ≤ 100000 := Nat.le_trans (Nat.div_le_self _ _) hx
    have et : Int.tmod (x : Int) (S : Int) = ((x % S : Nat) : Int) := by rw [Int.tmod_eq_emod_of_nonneg (by omega), Int.natCast_emod]
    have ed : Int.tdiv (x : Int) (S : Int) = ((x / S : Nat) : Int) := by rw [Int.tdiv_eq_ediv_of_nonneg (by omega), Int.natCast_ediv]
    have hq0 : (0 : Int) ≤ ((x / S : Nat) : Int) ∧ ((x / S : Nat) : Int) ≤ 100000 := ⟨Int.natCast_nonneg _, Int.ofNat_le.2 hdx⟩
    have hv1 := hv (x % S + 1) (by omega)
    have e1 : ((x % S + 1 : Nat) : Int) = ((x % S : Nat) : Int) + 1 := by omega
    rw [e1] at hv1
    have st : gameroomref_KeepWays_L2 N S ((x : Int), sh, (i : Int)) = some (.next (((x / S : Nat) : Int), sh.set (x % S + 1) (geti sh (((x % S : Nat) : Int) + 1) + 1), ((i + 1 : Nat) : Int))) := by
      have e2 : gameroomref_KeepWays_L2 N S ((x : Int), sh, (i : Int)) = gameroomref_KeepWays_J5 S x sh i := if_pos (decide_eq_true (by omega))
      rw [e2]
      unfold gameroomref_KeepWays_J5 gameroomref_KeepWays_J6
      rw [et, ed, w64_of (x := (S : Int) + 1) (by omega), w64_of (x := ((x % S : Nat) : Int) + 1) (by omega), asrt_pos (by omega), asrt_pos (by omega), asrt_pos (by omega), asrt_pos (by omega), w64_of (x := geti sh (((x % S : Nat) : Int) + 1) + 1) (by omega), w64_of (x := ((x / S : Nat) : Int)) ⟨Int.le_trans (by decide) hq0.1, Int.le_trans hq0.2 (by decide)⟩, w64_of (x := (i : Int) + 1) (by omega)]
      rw [show (((x % S : Nat) : Int) + 1).toNat = x % S + 1 by omega]
      rfl
    have hdg : digs S (m + 1) x = (x % S) :: digs S m (x / S) := rfl
    obtain ⟨sh', k1, k2, k3⟩ := ih (i + 1) (x / S) (sh.set (x % S + 1) (geti sh (((x % S : Nat) : Int) + 1) + 1)) (by omega) hdx (by simpa using hl) (by
      intro v hvS
      have := hv v hvS
      rw [geti_set' (by omega) (by omega)]
      split <;> omega)
    refine ⟨sh', loop_next' st k1, k2, fun v hvS => ?_⟩
    rw [k3 v hvS, geti_set' (by omega) (by omega), hdg, List.count_cons]
    by_cases e : v = x % S
    · rw [if_pos (by omega), if_pos (by simp [e]), e]
      show _ = _ + ((_ + 1 : Nat) : Int)
      omega
    · rw [if_neg (by omega), if_neg (by simp; omega)]
      rfl

theorem sum_p (S : Nat) (hS : 1 ≤ S ∧ S ≤ 20) (sh : List Int) (hl : sh.length = S + 1) (f : Nat → Nat) (hf : ∀ v, v < S → f v ≤ 10 ∧ geti sh ((v : Int) + 1) = f v) :
    ∀ (g : Nat) (sum : Int) (left : Nat), g ≤ S → 0 ≤ sum → sum + left * 20 ≤ 1000 → loop (gameroomref_KeepWays_L3 S sh) (sum, (left : Int), (g : Int)) = some (sum + top g f left) := by
  intro g
  induction g with
  | zero =>
    intro sum left _ _ _
    refine loop_done ?_
    simp only [gameroomref_KeepWays_L3, top]
    rw [if_neg (by simp)]
    simp
  | succ g ih =>
    intro sum left hg hs hsl
    obtain ⟨f1, f2⟩ := hf g (by omega)
    have f2' : geti sh ((g + 1 : Nat) : Int) = f g := f2
    generalize hm : min (f g) left = m
    have key := count_loop (step := gameroomref_KeepWays_L4 S sh ((g + 1 : Nat) : Int)) (fun (_ : Unit) (i : Nat) => (sum + (i : Int) * ((g + 1 : Nat) : Int), (left : Int) - i, (i : Int))) (fun _ _ => True) (fun r => r = (sum + (m : Int) * ((g + 1 : Nat) : Int), (left : Int) - m)) m () trivial (by
      rintro i - hi -
      left
      refine ⟨(), ?_, trivial⟩
      have hb : (i : Int) * ((g + 1 : Nat) : Int) ≤ i * 20 := Int.mul_le_mul_of_nonneg_left (by omega) (by omega)
      have hb0 : 0 ≤ (i : Int) * ((g + 1 : Nat) : Int) := Int.mul_nonneg (by omega) (by omega)
      have e : ((i + 1 : Nat) : Int) * ((g + 1 : Nat) : Int) = (i : Int) * ((g + 1 : Nat) : Int) + ((g + 1 : Nat) : Int) := by rw [Int.natCast_add, Int.add_mul]; omega
      simp only [gameroomref_KeepWays_L4]
      rw [asrt_pos (by rw [w64_of (by omega)]; omega), f2', if_pos (by simp only [Bool.and_eq_true, decide_eq_true_eq]; omega)]
      unfold gameroomref_KeepWays_J10 gameroomref_KeepWays_J11
      rw [e, w64_of (x := sum + (i : Int) * ((g + 1 : Nat) : Int) + ((g + 1 : Nat) : Int)) (by omega), w64_of (x := (left : Int) - i - 1) (by omega), w64_of (x := (i : Int) + 1) (by omega), Int.add_assoc, show (left : Int) - i - 1 = (left : Int) - ((i + 1 : Nat) : Int) by omega]
      rfl) (by
      rintro - -
      refine ⟨_, ?_, rfl⟩
      simp only [gameroomref_KeepWays_L4]
      rw [asrt_pos (by rw [w64_of (by omega)]; omega), f2', if_neg (by simp only [Bool.and_eq_true, decide_eq_true_eq]; omega)])
    obtain ⟨r, hr, rfl⟩ := key
    have hr' : loop (gameroomref_KeepWays_L4 S sh ((g + 1 : Nat) : Int)) (sum, (left : Int), 0) = some (sum + (m : Int) * ((g + 1 : Nat) : Int), (left : Int) - m) := by
      have := hr
      simp only [Int.natCast_zero, Int.zero_mul, Int.add_zero, Int.sub_zero] at this
      exact this
    have hb : (m : Int) * ((g + 1 : Nat) : Int) ≤ m * 20 := Int.mul_le_mul_of_nonneg_left (by omega) (by omega)
    have hb0 : 0 ≤ (m : Int) * ((g + 1 : Nat) : Int) := Int.mul_nonneg (by omega) (by omega)
    have st : gameroomref_KeepWays_L3 S sh (sum, (left : Int), ((g + 1 : Nat) : Int)) = some (.next (sum + (m : Int) * ((g + 1 : Nat) : Int), ((left - m : Nat) : Int), (g : Int))) := by
      simp only [gameroomref_KeepWays_L3]
      rw [if_pos (decide_eq_true (by omega))]
      unfold gameroomref_KeepWays_J8
      rw [hr', Option.bind_some]
      simp only [gameroomref_KeepWays_K4, gameroomref_KeepWays_J9]
      rw [w64_of (x := ((g + 1 : Nat) : Int) - 1) (by omega), show ((g + 1 : Nat) : Int) - 1 = (g : Int) by omega, show (left : Int) - m = ((left - m : Nat) : Int) by omega]
    rw [loop_next' st (ih _ (left - m) (by omega) (by omega) (by omega))]
    rw [show top (g + 1) f left = ((min (f g) left : Nat) : Int) * ((g : Int) + 1) + top g f (left - min (f g) left) from rfl, hm, Int.add_assoc]
    rfl

theorem keep_ref (S N K : Nat) (hS : 1 ≤ S ∧ S ≤ 20) (hN : N ≤ 10) (hK : 1 ≤ K ∧ K ≤ N) (hw : S ^ N ≤ 100000) (hall : gameroomref_allWays_m S N = some ((S ^ N : Nat) : Int)) :
    ∃ l, gameroomref_KeepWays_m N S K = some l ∧ (l.length : Int) = (K : Int) * S - K + 1 ∧ ∀ j : Nat, j < l.length → geti l j = cnt S N K ((j : Int) + K) ∧ 0 ≤ geti l j ∧ geti l j ≤ 100000 := by
  have hKS : (K : Int) * S ≤ 10 * 20 := Int.mul_le_mul (by omega) (by omega) (by omega) (by omega)
  have hKS1 : (K : Int) * 1 ≤ (K : Int) * S := Int.mul_le_mul_of_nonneg_left (by omega) (by omega)
  rw [Int.mul_one] at hKS1
  unfold gameroomref_KeepWays_m
  have el : w64 (w64 (w64 ((K : Int) * S) - K) + 1) = (K : Int) * S - K + 1 := by
    rw [w64_of (x := (K : Int) * S) (by omega), w64_of (x := (K : Int) * S - K) (by omega), w64_of (by omega)]
  rw [el, asrt_pos (by unfold bigN; omega), hall, Option.bind_some]
  generalize hL : ((K : Int) * S - K + 1).toNat = L
  have hLI : (L : Int) = (K : Int) * S - K + 1 := by omega
  have hcnt : ∀ w v : Nat, (digs S N w).count v ≤ N := by
    intro w v
    have := List.count_le_length (a := v) (l := digs S N w)
    rw [digs_len] at this
    exact this
  have key := count_loop (step := gameroomref_KeepWays_L1 N S K ((S ^ N : Nat) : Int)) (fun (s : List Int) (i : Nat) => (s, (i : Int)))
    (fun w s => s.length = L ∧ ∀ j : Nat, j < L → geti s j = sm w (fun w => if top S (fun v => (digs S N w).count v) K = (j : Int) + K then 1 else 0) ∧ 0 ≤ geti s j ∧ geti s j ≤ w)
    (fun r => r.length = L ∧ ∀ j : Nat, j < L → geti r j = sm (S ^ N) (fun w => if top S (fun v => (digs S N w).count v) K = (j : Int) + K then 1 else 0) ∧ 0 ≤ geti r j ∧ geti r j ≤ 100000) (S ^ N) (List.replicate L 0) ⟨by simp, fun j hj => by
      have : geti (List.replicate L (0 : Int)) (j : Int) = 0 := geti_some (by rw [List.getElem?_replicate, if_pos hj])
      rw [this]
      exact ⟨rfl, by omega, by omega⟩⟩ (by
      rintro w s hwl ⟨h1, h2⟩
      left
      obtain ⟨sh, d1, d2, d3⟩ := dig_p S N hS hN N 0 w (List.replicate (S + 1) 0) (by omega) (by omega) (by simp) (by
        intro v hv
        have : geti (List.replicate (S + 1) (0 : Int)) (v : Int) = 0 := geti_some (by rw [List.getElem?_replicate, if_pos (by omega)])
        rw [this]; omega)
      have hz : ∀ v : Nat, v < S → geti (List.replicate (S + 1) (0 : Int)) ((v : Int) + 1) = 0 := fun v hv => geti_some (i := v + 1) (by rw [List.getElem?_replicate, if_pos (by omega)])
      have hs := sum_p S hS sh d2 (fun v => (digs S N w).count v) (fun v hv => ⟨by have := hcnt w v; omega, by rw [d3 v hv, hz v hv, Int.zero_add]⟩) S 0 K (by omega) (by omega) (by omega)
      have htot : sm S (fun v => ((digs S N w).count v : Int)) = N := by
        rw [count_tot (digs S N w) (fun d hd => digs_lt (by omega) N w d hd), digs_len]
      obtain ⟨t1, t2⟩ := top_bd (fun v => (digs S N w).count v) S K (by rw [htot]; omega)
      generalize hT : top S (fun v => (digs S N w).count v) K = T at *
      rw [Int.zero_add] at hs
      have hi : 0 ≤ T - K ∧ T - K < (L : Int) := by omega
      obtain ⟨g1, g2, g3⟩ := h2 (T - K).toNat (by omega)
      rw [show (((T - K).toNat : Nat) : Int) = T - K by omega] at g2 g3
      refine ⟨s.set (T - K).toNat (geti s (T - K) + 1), ?_, by simpa using h1, fun j hj => ?_⟩
      · have e1 : gameroomref_KeepWays_L1 N S K ((S ^ N : Nat) : Int) (s, (w : Int)) = gameroomref_KeepWays_J2 N S K s w := if_pos (decide_eq_true (by omega))
        rw [e1]
        unfold gameroomref_KeepWays_J2
        rw [w64_of (x := (S : Int) + 1) (by omega), asrt_pos (by unfold bigN; omega), show ((S : Int) + 1).toNat = S + 1 by omega]
        have d1' : loop (gameroomref_KeepWays_L2 N S) ((w : Int), List.replicate (S + 1) 0, 0) = some sh := d1
        rw [d1', Option.bind_some]
        simp only [gameroomref_KeepWays_K2]
        unfold gameroomref_KeepWays_J4
        rw [hs, Option.bind_some]
        simp only [gameroomref_KeepWays_K3]
        unfold gameroomref_KeepWays_J7 gameroomref_KeepWays_J3
        rw [el, hL, w64_of (x := T - (K : Int)) (by omega), asrt_pos hi, asrt_pos hi, w64_of (x := geti s (T - K) + 1) (by omega), w64_of (x := (w : Int) + 1) (by omega)]
        rfl
      · obtain ⟨q1, q2, q3⟩ := h2 j hj
        rw [geti_set' (by omega) (by omega), sm_succ, ← q1, hT]
        by_cases e : (j : Int) = T - K
        · rw [if_pos (by omega), if_pos (by omega), ← e]
          exact ⟨rfl, by omega, by omega⟩
        · rw [if_neg (by omega), if_neg (by omega)]
          exact ⟨by omega, q2, by omega⟩) (by
      rintro s ⟨h1, h2⟩
      refine ⟨s, ?_, h1, fun j hj => ?_⟩
      · simp only [gameroomref_KeepWays_L1]
        rw [if_neg (by simp)]
      · obtain ⟨q1, q2, q3⟩ := h2 j hj
        exact ⟨q1, q2, by omega⟩)
  obtain ⟨r, hr, h1, h2⟩ := key
  have hr' : loop (gameroomref_KeepWays_L1 N S K ((S ^ N : Nat) : Int)) (List.replicate L 0, 0) = some r := hr
  rw [hr', Option.bind_some]
  refine ⟨r, rfl, by omega, fun j hj => ?_⟩
  obtain ⟨q1, q2, q3⟩ := h2 j (by omega)
  rw [throws (by omega)] at q1
  exact ⟨q1, q2, q3⟩

theorem true_DiceKeeps (n sides k : Int) (_h0 : inI n) (_h1 : inI sides) (_h2 : inI k) : gameroomlaw_DiceKeeps_m n sides k = some true := by
  unfold gameroomlaw_DiceKeeps_m dice_Keep_m gameroomref_KeepMay_m gameroomref_within_m
  rw [Option.bind_some]
  by_cases hn : 1 ≤ n ∧ n ≤ 10
  · rw [if_neg (show ¬ (decide (n < 1) || decide ((10 : Int) < n)) = true by simp; omega), show (decide (1 ≤ n) && decide (n ≤ 10)) = true by simp; omega]
    simp only [Bool.not_true, Bool.false_eq_true, if_false]
    unfold gameroomref_KeepMay_J1 gameroomref_within_m
    rw [Option.bind_some]
    by_cases hs : 1 ≤ sides ∧ sides ≤ 20
    · rw [if_neg (show ¬ (decide (sides < 1) || decide ((20 : Int) < sides)) = true by simp; omega), show (decide (1 ≤ sides) && decide (sides ≤ 20)) = true by simp; omega]
      simp only [Bool.not_true, Bool.false_eq_true, if_false]
      unfold gameroomref_KeepMay_J2 gameroomref_within_m gameroomref_KeepMay_J3
      rw [Option.bind_some]
      by_cases hk : 1 ≤ k ∧ k ≤ n
      · have e1 : (decide (k < 1) || decide (n < k)) = false := by rw [Bool.or_eq_false_iff, decide_eq_false_iff_not, decide_eq_false_iff_not]; omega
        have e2 : (decide (1 ≤ k) && decide (k ≤ n)) = true := by simp; omega
        rw [e1, e2]
        simp only [Bool.not_true, Bool.not_false, if_true, Bool.false_or]
        obtain ⟨N, rfl⟩ : ∃ N : Nat, n = N := ⟨n.toNat, by omega⟩
        obtain ⟨S, rfl⟩ : ∃ S : Nat, sides = S := ⟨sides.toNat, by omega⟩
        obtain ⟨K, rfl⟩ : ∃ K : Nat, k = K := ⟨k.toNat, by omega⟩
        obtain ⟨v, v1, v2, v3⟩ := ways_p S N (by omega) (by omega)
        rw [v1, v2]
        simp only [Option.bind_some]
        rcases v3 with rfl | ⟨rfl, hw⟩
        · rfl
        · have hpos : 0 < S ^ N := Nat.pow_pos (by omega)
          have ne : ¬ ((((S ^ N : Nat) : Int) == 0) = true) := by rw [beq_iff_eq]; omega
          rw [if_neg ne, if_neg ne]
          have hKS : (K : Int) * S ≤ 10 * 20 := Int.mul_le_mul (by omega) (by omega) (by omega) (by omega)
          have hKS1 : (K : Int) * 1 ≤ (K : Int) * S := Int.mul_le_mul_of_nonneg_left (by omega) (by omega)
          rw [Int.mul_one] at hKS1
          obtain ⟨l, l1, l2, l3⟩ := keep_ref S N K (by omega) (by omega) (by omega) hw v2
          have eL : w64 (w64 ((K : Int) * w64 ((S : Int) - 1)) + 1) = (K : Int) * S - K + 1 := by
            rw [w64_of (x := (S : Int) - 1) (by omega), Int.mul_sub, Int.mul_one, w64_of (x := (K : Int) * S - K) (by omega), w64_of (by omega)]
          unfold dice_Keep_J1
          rw [eL, asrt_pos (by unfold bigN; omega)]
          have hz : ∀ j : Nat, j < ((K : Int) * S - K + 1).toNat → geti (List.replicate ((K : Int) * S - K + 1).toNat (0 : Int)) (j : Int) = 0 := fun j hj => geti_some (by rw [List.getElem?_replicate, if_pos hj])
          obtain ⟨out, o1, o2, o3, o4⟩ := share_p K S (by omega) (by omega) S N 0 0 1 (List.replicate ((K : Int) * S - K + 1).toNat 0) (by omega) (by omega) (by omega) (by omega) (by omega) (by omega) (by rw [List.length_replicate]; omega) (fun j hj => by rw [List.length_replicate] at hj; rw [hz j hj]; rfl)
          have o1' := dice_Keep_1_m_of _ _ _ _ _ _ _ _ o1
          rw [show w64 1 = 1 from rfl] at o1'
          rw [o1', Option.bind_some]
          rw [List.length_replicate] at o2 o3 o4
          have same : out = l := by
            refine ext_geti (by omega) fun j hj => ?_
            rw [o4 j (by omega), hz j (by omega)]
            obtain ⟨q1, q2, q3⟩ := l3 j (by omega)
            rw [show ((K : Int) - 0).toNat = K by omega, show (j : Int) + K - 0 = (j : Int) + K by omega, ← q1, Int.zero_add, Int.one_mul, w64_of (by omega)]
          simp only [Option.bind_some]
          rw [if_neg (by decide)]
          unfold gameroomlaw_DiceKeeps_J1 gameroomlaw_DiceKeeps_J2
          simp only
          rw [if_pos (by decide), l1, Option.bind_some, if_pos (by decide), same, sameInts_eq (by omega), decide_eq_true rfl]
          rfl
      · have e1 : (decide (k < 1) || decide (n < k)) = true := by rw [Bool.or_eq_true, decide_eq_true_eq, decide_eq_true_eq]; omega
        have e2 : (decide (1 ≤ k) && decide (k ≤ n)) = false := by rw [Bool.and_eq_false_iff, decide_eq_false_iff_not, decide_eq_false_iff_not]; omega
        rw [e1, e2]
        rfl
    · rw [if_pos (show (decide (sides < 1) || decide ((20 : Int) < sides)) = true by rw [Bool.or_eq_true, decide_eq_true_eq, decide_eq_true_eq]; omega), show (decide (1 ≤ sides) && decide (sides ≤ 20)) = false by rw [Bool.and_eq_false_iff, decide_eq_false_iff_not, decide_eq_false_iff_not]; omega]
      rfl
  · rw [if_pos (show (decide (n < 1) || decide ((10 : Int) < n)) = true by rw [Bool.or_eq_true, decide_eq_true_eq, decide_eq_true_eq]; omega), show (decide (1 ≤ n) && decide (n ≤ 10)) = false by rw [Bool.and_eq_false_iff, decide_eq_false_iff_not, decide_eq_false_iff_not]; omega]
    rfl
end Go.Proofs.Ytnplejebgbdfpaa
