/-
  Magic squares: sums of lines; a square's kind, as the program and as the document tell it.
-/
import Derived.Test.YtlpaklmfgldkoaaORa
namespace Go.Proofs.Ytlpaklmfgldkoaa
open Go Go.GL

/-- A sum of the first ones. -/
def sI (g : Nat → Int) : Nat → Int
  | 0 => 0
  | k + 1 => sI g k + g k

theorem sI_congr {f g : Nat → Int} : ∀ {n : Nat}, (∀ i, i < n → f i = g i) → sI f n = sI g n
  | 0, _ => rfl
  | n + 1, h => by
    simp only [sI]
    rw [sI_congr (fun i hi => h i (by omega)), h n (by omega)]
theorem sI_front (g : Nat → Int) : ∀ n, sI g (n + 1) = g 0 + sI (fun i => g (i + 1)) n
  | 0 => by simp [sI]
  | n + 1 => by
    have ih := sI_front g n
    simp only [sI] at ih ⊢
    omega
theorem sI_rev : ∀ (n : Nat) (g : Nat → Int), sI (fun i => g (n - 1 - i)) n = sI g n
  | 0, _ => rfl
  | n + 1, g => by
    rw [sI_front g n]
    simp only [sI]
    have e : sI (fun i => g (n + 1 - 1 - i)) n = sI (fun i => g (i + 1)) n := by
      rw [← sI_rev n (fun i => g (i + 1))]
      exact sI_congr (fun i hi => by rw [show n + 1 - 1 - i = n - 1 - i + 1 by omega])
    rw [e, show n + 1 - 1 - n = 0 by omega]
    omega

theorem sI_bd {g : Nat → Int} : ∀ {n : Nat}, (∀ i, i < n → 0 ≤ g i ∧ g i ≤ 1000) → 0 ≤ sI g n ∧ sI g n ≤ 1000 * n
  | 0, _ => by simp [sI]
  | n + 1, h => by
    have ih := sI_bd (n := n) (fun i hi => h i (by omega))
    have := h n (by omega)
    simp only [sI]
    omega

/-- A square of small numbers. -/
structure Sq (l : List Int) (n : Nat) : Prop where
  n1 : 1 ≤ n
  n2 : n ≤ 12
  len : l.length = n * n
  bd : ∀ j : Nat, 0 ≤ geti l (j : Int) ∧ geti l (j : Int) ≤ 1000

variable {l : List Int} {n : Nat}

theorem cell_lt {a b n : Nat} (ha : a < n) (hb : b < n) : a * n + b < n * n := by
  calc a * n + b < a * n + n := by omega
    _ = (a + 1) * n := by rw [Nat.succ_mul]
    _ ≤ n * n := Nat.mul_le_mul_right _ ha

theorem sq_small (h : n ≤ 12) : n * n ≤ 144 := Nat.mul_le_mul h h

/-- A cell's place, as the program reckons it. -/
theorem place {a b : Nat} {x y : Int} (hs : Sq l n) (ha : a < n) (hb : b < n) (hx : x = (a : Int)) (hy : y = (b : Int)) : w64 (w64 (x * (n : Int)) + y) = ((a * n + b : Nat) : Int) := by
  subst hx; subst hy
  have h1 := cell_lt ha hb
  have h2 := sq_small hs.n2
  have e : (a : Int) * (n : Int) = ((a * n : Nat) : Int) := by push_cast; rfl
  rw [e, w64_of (x := ((a * n : Nat) : Int)) (by omega), w64_of (by omega)]
  push_cast; rfl

theorem in_range {a b : Nat} (hs : Sq l n) (ha : a < n) (hb : b < n) : 0 ≤ ((a * n + b : Nat) : Int) ∧ ((a * n + b : Nat) : Int) < (l.length : Int) := by
  have h1 := cell_lt ha hb
  rw [hs.len]
  omega

/-- A sum by a loop. -/
theorem sum_loop {step : (Int × Int) → Option (St (Int × Int) Int)} {g : Nat → Int} {n : Nat} (hn : n ≤ 12) (hg : ∀ i, i < n → 0 ≤ g i ∧ g i ≤ 1000)
    (h1 : ∀ (s : Int) (i : Nat), i < n → step (s, (i : Int)) = some (.next (w64 (s + g i), w64 ((i : Int) + 1)))) (h2 : ∀ s : Int, step (s, (n : Int)) = some (.done s)) : loop step (0, 0) = some (sI g n) := by
  refine loop_from (f := fun k => (sI g k, (k : Int))) n rfl (fun k hk => ?_) (h2 _)
  have hb := sI_bd (g := g) (n := k) (fun i hi => hg i (by omega))
  have hb2 := hg k hk
  rw [h1 _ k hk, w64_of (by omega), w64_of (by omega)]
  rfl

def rowS (l : List Int) (n k : Nat) : Int := sI (fun i => geti l ((k * n + i : Nat) : Int)) n
def colS (l : List Int) (n k : Nat) : Int := sI (fun i => geti l ((i * n + k : Nat) : Int)) n
def dnS (l : List Int) (n k : Nat) : Int := sI (fun i => geti l ((i * n + (i + k) % n : Nat) : Int)) n
def upS (l : List Int) (n k : Nat) : Int := sI (fun i => geti l (((n - 1 - i) * n + (i + k) % n : Nat) : Int)) n

theorem mod_self {k : Nat} (h : k < n) : Int.tmod (k : Int) (n : Int) = (k : Int) := by rw [tmod_nat, Nat.mod_eq_of_lt h]

theorem sum1 (hs : Sq l n) {k : Nat} (hk : k < n) : magic_sum_m l n k = some (rowS l n k) := by
  have h1 := hs.n1
  have h2 := hs.n2
  unfold magic_sum_m
  have : loop (magic_sum_L1 l n k) (0, 0) = some (rowS l n k) := by
    refine sum_loop hs.n2 (fun i _ => hs.bd _) (fun s i hi => ?_) (fun s => ?_)
    · have hp := in_range hs hk hi
      simp only [magic_sum_L1, magic_sum_J2, magic_row_1_m, magic_sum_J3, Option.bind_some]
      rw [if_pos (decide_eq_true (by omega)), asrt_pos (by omega), asrt_pos (by omega), mod_self hk, mod_self hi, place hs hk hi rfl rfl, asrt_pos hp]
    · simp only [magic_sum_L1]
      rw [if_neg (by simp)]
  rw [this]; rfl
theorem sum2 (hs : Sq l n) {k : Nat} (hk : k < n) : magic_sum_2_m l n k = some (colS l n k) := by
  have h1 := hs.n1
  have h2 := hs.n2
  unfold magic_sum_2_m
  have : loop (magic_sum_2_L1 l n k) (0, 0) = some (colS l n k) := by
    refine sum_loop hs.n2 (fun i _ => hs.bd _) (fun s i hi => ?_) (fun s => ?_)
    · have hp := in_range hs hi hk
      simp only [magic_sum_2_L1, magic_sum_2_J2, magic_column_1_m, magic_sum_2_J3, Option.bind_some]
      rw [if_pos (decide_eq_true (by omega)), asrt_pos (by omega), asrt_pos (by omega), mod_self hk, mod_self hi, place hs hi hk rfl rfl, asrt_pos hp]
    · simp only [magic_sum_2_L1]
      rw [if_neg (by simp)]
  rw [this]; rfl
theorem sum3 (hs : Sq l n) {k : Nat} (hk : k < n) : magic_sum_3_m l n k = some (dnS l n k) := by
  have h1 := hs.n1
  have h2 := hs.n2
  unfold magic_sum_3_m
  have : loop (magic_sum_3_L1 l n k) (0, 0) = some (dnS l n k) := by
    refine sum_loop hs.n2 (fun i _ => hs.bd _) (fun s i hi => ?_) (fun s => ?_)
    · have hm : (i + k) % n < n := Nat.mod_lt _ (by omega)
      have hp := in_range hs hi hm
      have e : Int.tmod (w64 ((i : Int) + (k : Int))) (n : Int) = (((i + k) % n : Nat) : Int) := by
        rw [w64_of (by omega), ← Int.natCast_add, tmod_nat]
      simp only [magic_sum_3_L1, magic_sum_3_J2, magic_down_1_m, magic_sum_3_J3, Option.bind_some]
      rw [if_pos (decide_eq_true (by omega)), asrt_pos (by omega), asrt_pos (by omega), e, mod_self hi, place hs hi hm rfl rfl, asrt_pos hp]
    · simp only [magic_sum_3_L1]
      rw [if_neg (by simp)]
  rw [this]; rfl
theorem sum4 (hs : Sq l n) {k : Nat} (hk : k < n) : magic_sum_4_m l n k n = some (upS l n k) := by
  have h1 := hs.n1
  have h2 := hs.n2
  unfold magic_sum_4_m
  have : loop (magic_sum_4_L1 l n k n) (0, 0) = some (upS l n k) := by
    refine sum_loop hs.n2 (fun i _ => hs.bd _) (fun s i hi => ?_) (fun s => ?_)
    · have hm : (i + k) % n < n := Nat.mod_lt _ (by omega)
      have hi' : n - 1 - i < n := by omega
      have hp := in_range hs hi' hm
      have e : Int.tmod (w64 ((i : Int) + (k : Int))) (n : Int) = (((i + k) % n : Nat) : Int) := by
        rw [w64_of (by omega), ← Int.natCast_add, tmod_nat]
      have e2 : w64 (w64 ((n : Int) - 1) - (i : Int)) = ((n - 1 - i : Nat) : Int) := by
        rw [w64_of (x := (n : Int) - 1) (by omega), w64_of (by omega)]
        omega
      simp only [magic_sum_4_L1, magic_sum_4_J2, magic_up_1_1_m, magic_sum_4_J3, Option.bind_some]
      rw [if_pos (decide_eq_true (by omega)), asrt_pos (by omega), asrt_pos (by omega), e, e2, mod_self hi', place hs hi' hm rfl rfl, asrt_pos hp]
    · simp only [magic_sum_4_L1]
      rw [if_neg (by simp)]
  rw [this]; rfl

def flb : Fl Unit Bool → Bool
  | Fl.go _ => true
  | Fl.ret x => x

/-- Have all lines of a kind one sum? -/
theorem alike_loop {step : Int → Option (St Int (Fl Unit Bool))} {g : Nat → Int} {n : Nat} {want : Int} (hn : n ≤ 12)
    (h1 : ∀ k : Nat, k < n → step (k : Int) = if g k ≠ want then some (.done (.ret false)) else some (.next (w64 ((k : Int) + 1)))) (h2 : step (n : Int) = some (.done (.go ()))) :
    ∃ r, loop step 0 = some r ∧ flb r = decide (∀ k, k < n → g k = want) := by
  refine count_loop (mk := fun (_ : Unit) k => (k : Int)) (I := fun k _ => ∀ j, j < k → g j = want) (Post := fun (r : Fl Unit Bool) => flb r = decide (∀ k, k < n → g k = want)) n () (fun j hj => by omega) (fun k _ hk hI => ?_) (fun _ hI => ?_)
  · rw [h1 k hk]
    by_cases hg : g k = want
    · rw [if_neg (by simpa using hg), w64_of (by omega)]
      exact .inl ⟨(), rfl, fun j hj => by
        rcases Nat.lt_or_ge j k with h | h
        · exact hI j h
        · rw [show j = k by omega]; exact hg⟩
    · rw [if_pos hg]
      refine .inr ⟨_, rfl, ?_⟩
      rw [eq_comm]
      show decide _ = false
      rw [decide_eq_false_iff_not]
      exact fun h => hg (h k hk)
  · exact ⟨_, h2, by rw [eq_comm]; show decide _ = true; rw [decide_eq_true_eq]; exact hI⟩

theorem alike1 (hs : Sq l n) (want : Int) : magic_alike_m l n want = some (decide (∀ k, k < n → rowS l n k = want)) := by
  have h2 := hs.n2
  obtain ⟨r, e, hr⟩ := alike_loop (step := magic_alike_L1 l n want) (g := rowS l n) (want := want) hs.n2 (fun k hk => by
    simp only [magic_alike_L1, magic_alike_J2, magic_row_m, magic_alike_J3, Option.bind_some]
    rw [if_pos (decide_eq_true (by omega)), sum1 hs hk, Option.bind_some]
    by_cases h : rowS l n k = want <;> simp [h]) (by
    simp only [magic_alike_L1]
    rw [if_neg (by simp)])
  unfold magic_alike_m
  rw [e, ← hr]
  cases r <;> rfl
theorem alike2 (hs : Sq l n) (want : Int) : magic_alike_2_m l n want = some (decide (∀ k, k < n → colS l n k = want)) := by
  have h2 := hs.n2
  obtain ⟨r, e, hr⟩ := alike_loop (step := magic_alike_2_L1 l n want) (g := colS l n) (want := want) hs.n2 (fun k hk => by
    simp only [magic_alike_2_L1, magic_alike_2_J2, magic_column_m, magic_alike_2_J3, Option.bind_some]
    rw [if_pos (decide_eq_true (by omega)), sum2 hs hk, Option.bind_some]
    by_cases h : colS l n k = want <;> simp [h]) (by
    simp only [magic_alike_2_L1]
    rw [if_neg (by simp)])
  unfold magic_alike_2_m
  rw [e, ← hr]
  cases r <;> rfl
theorem alike3 (hs : Sq l n) (want : Int) : magic_alike_3_m l n want = some (decide (∀ k, k < n → dnS l n k = want)) := by
  have h2 := hs.n2
  obtain ⟨r, e, hr⟩ := alike_loop (step := magic_alike_3_L1 l n want) (g := dnS l n) (want := want) hs.n2 (fun k hk => by
    simp only [magic_alike_3_L1, magic_alike_3_J2, magic_down_m, magic_alike_3_J3, Option.bind_some]
    rw [if_pos (decide_eq_true (by omega)), sum3 hs hk, Option.bind_some]
    by_cases h : dnS l n k = want <;> simp [h]) (by
    simp only [magic_alike_3_L1]
    rw [if_neg (by simp)])
  unfold magic_alike_3_m
  rw [e, ← hr]
  cases r <;> rfl
theorem alike4 (hs : Sq l n) (want : Int) : magic_alike_4_m l n want n = some (decide (∀ k, k < n → upS l n k = want)) := by
  have h2 := hs.n2
  obtain ⟨r, e, hr⟩ := alike_loop (step := magic_alike_4_L1 l n want n) (g := upS l n) (want := want) hs.n2 (fun k hk => by
    simp only [magic_alike_4_L1, magic_alike_4_J2, magic_up_1_m, magic_alike_4_J3, Option.bind_some]
    rw [if_pos (decide_eq_true (by omega)), sum4 hs hk, Option.bind_some]
    by_cases h : upS l n k = want <;> simp [h]) (by
    simp only [magic_alike_4_L1]
    rw [if_neg (by simp)])
  unfold magic_alike_4_m
  rw [e, ← hr]
  cases r <;> rfl

/-- A magic square. -/
def KP (l : List Int) (n : Nat) : Prop := (∀ k, k < n → rowS l n k = rowS l n 0) ∧ (∀ k, k < n → colS l n k = rowS l n 0) ∧ dnS l n 0 = rowS l n 0 ∧ upS l n 0 = rowS l n 0

theorem sum1_0 (hs : Sq l n) : magic_sum_m l n 0 = some (rowS l n 0) := sum1 hs (k := 0) hs.n1
theorem sum3_0 (hs : Sq l n) : magic_sum_3_m l n 0 = some (dnS l n 0) := sum3 hs (k := 0) hs.n1
theorem sum4_0 (hs : Sq l n) : magic_sum_4_m l n 0 n = some (upS l n 0) := sum4 hs (k := 0) hs.n1

theorem kind2_p (hs : Sq l n) (h1 : ∀ k, k < n → rowS l n k = rowS l n 0) (h2 : ∀ k, k < n → colS l n k = rowS l n 0) : ∃ kd w, magic_kind_J2 l n (rowS l n 0) true = some (kd, w) ∧ (2 ≤ kd ↔ KP l n) := by
  unfold magic_kind_J2 magic_down_m
  rw [if_pos rfl, Option.bind_some, sum3_0 hs, Option.bind_some]
  by_cases h3 : dnS l n 0 = rowS l n 0
  · rw [if_pos (by simpa using h3)]
    unfold magic_up_m magic_up_1_m
    rw [Option.bind_some, Option.bind_some, if_pos (by simpa using h3), sum4_0 hs, Option.bind_some]
    unfold magic_kind_J4 magic_kind_J3
    by_cases h4 : upS l n 0 = rowS l n 0
    · rw [if_pos (by simp [h3, h4])]
      exact ⟨_, _, rfl, ⟨fun _ => ⟨h1, h2, h3, h4⟩, fun _ => by omega⟩⟩
    · rw [if_neg (by simp [h3, h4])]
      exact ⟨_, _, rfl, ⟨fun h => by omega, fun h => absurd h.2.2.2 h4⟩⟩
  · rw [if_neg (by simpa using h3)]
    unfold magic_kind_J4 magic_kind_J3
    rw [if_neg (by simp [h3])]
    exact ⟨_, _, rfl, ⟨fun h => by omega, fun h => absurd h.2.2.1 h3⟩⟩

theorem kind_p (hs : Sq l n) : ∃ kd w, magic_kind_m l n = some (kd, w) ∧ (2 ≤ kd ↔ KP l n) := by
  have hn1 := hs.n1
  unfold magic_kind_m magic_row_m
  rw [Option.bind_some, sum1_0 hs, Option.bind_some, alike1 hs, Option.bind_some]
  by_cases h1 : ∀ k, k < n → rowS l n k = rowS l n 0
  · rw [decide_eq_true h1, if_pos (by rfl), alike2 hs, Option.bind_some]
    by_cases h2 : ∀ k, k < n → colS l n k = rowS l n 0
    · rw [decide_eq_true h2, if_neg (by decide), alike3 hs, Option.bind_some]
      by_cases h3 : ∀ k, k < n → dnS l n k = rowS l n 0
      · rw [decide_eq_true h3, if_neg (by decide)]
        unfold magic_up_m
        rw [Option.bind_some, if_pos (by rfl), alike4 hs, Option.bind_some]
        by_cases h4 : ∀ k, k < n → upS l n k = rowS l n 0
        · rw [decide_eq_true h4]
          unfold magic_kind_J2 magic_kind_J1
          rw [if_neg (by decide)]
          exact ⟨_, _, rfl, ⟨fun _ => ⟨h1, h2, h3 0 hn1, h4 0 hn1⟩, fun _ => by omega⟩⟩
        · rw [decide_eq_false h4]
          exact kind2_p hs h1 h2
      · rw [decide_eq_false h3, if_pos (by decide)]
        exact kind2_p hs h1 h2
    · rw [decide_eq_false h2, if_pos (by decide)]
      exact ⟨_, _, rfl, ⟨fun h => by omega, fun h => absurd h.2.1 h2⟩⟩
  · rw [decide_eq_false h1, if_neg (by decide), Option.bind_some, if_pos (by decide)]
    exact ⟨_, _, rfl, ⟨fun h => by omega, fun h => absurd h.1 h1⟩⟩
end Go.Proofs.Ytlpaklmfgldkoaa
