/-
  Mancala: what boards may be; rows joined.
-/
import Derived.Test.YtogecbgngnjhgaaNMV
import Derived.Test.YtogecbgngnjhgaaVA
import Derived.Test.YtogecbgngnjhgaaLibT
import Derived.Test.YtogecbgngnjhgaaLibK
namespace Go.Proofs.Ytogecbgngnjhgaa
open Go Go.GL

theorem sums {b : List Int} {n : Nat} (h : ∀ i : Nat, i < n → 0 ≤ geti b (i : Int) ∧ geti b (i : Int) ≤ 1000) : 0 ≤ sm n (fun i => geti b (i : Int)) ∧ sm n (fun i => geti b (i : Int)) ≤ 1000 * n := by
  have := sm_bd (f := fun i => geti b (i : Int)) (a := 0) (b := 1000) n h
  omega

/-- Seeds that may be. -/
def okB (b : List Int) : Prop := ∀ i : Nat, i < b.length → 0 ≤ geti b (i : Int) ∧ sm (i + 1) (fun k => geti b (k : Int)) ≤ 1000

theorem okB_small {b : List Int} {n : Nat} (hn : n ≤ b.length) (h : ∀ i : Nat, i < n → 0 ≤ geti b (i : Int) ∧ sm (i + 1) (fun k => geti b (k : Int)) ≤ 1000) : ∀ i : Nat, i < n → 0 ≤ geti b (i : Int) ∧ geti b (i : Int) ≤ 1000 := by
  intro i
  induction i using Nat.strongRecOn with
  | ind i ih =>
    intro hi
    have h1 := h i hi
    have h2 := sums (b := b) (n := i) (fun k hk => ih k hk (by omega))
    rw [sm_succ] at h1
    omega

open Classical in
theorem may_p {b : List Int} (hl : b.length ≤ 14) : mancala_May_J1 b = some (decide (okB b)) := by
  have key := count_loop (step := mancala_May_L1 b) (fun (_ : Unit) (i : Nat) => (1000 - sm i (fun k => geti b (k : Int)), (i : Int))) (fun n _ => ∀ i : Nat, i < n → 0 ≤ geti b (i : Int) ∧ sm (i + 1) (fun k => geti b (k : Int)) ≤ 1000) (fun r => r = if okB b then .go () else .ret false) b.length () (fun i h => by omega) (by
    rintro i - hi hI
    have e1 : mancala_May_L1 b (1000 - sm i (fun k => geti b (k : Int)), (i : Int)) = mancala_May_J3 b (1000 - sm i (fun k => geti b (k : Int))) i := if_pos (decide_eq_true (by omega))
    have hs := sums (b := b) (n := i) (fun k hk => okB_small (by omega) hI k hk)
    have hsS : sm i (fun k => geti b (k : Int)) ≤ 1000 := by
      cases i with
      | zero => show (0 : Int) ≤ 1000; decide
      | succ i => exact (hI i (by omega)).2
    rw [e1]
    have es := sm_succ i (fun k => geti b (k : Int))
    unfold mancala_May_J3 mancala_May_J5 mancala_May_J4
    rw [asrt_pos (by omega)]
    by_cases q : 0 ≤ geti b (i : Int) ∧ sm (i + 1) (fun k => geti b (k : Int)) ≤ 1000
    · left
      refine ⟨(), ?_, fun k hk => ?_⟩
      · rw [if_neg (by simp; omega), w64_of (x := (i : Int) + 1) (by omega), w64_of (by omega), es, show (1000 : Int) - sm i (fun k => geti b (k : Int)) - geti b (i : Int) = 1000 - (sm i (fun k => geti b (k : Int)) + geti b (i : Int)) by omega]; rfl
      · by_cases e : k = i
        · rw [e]; exact q
        · exact hI k (by omega)
    · right
      refine ⟨.ret false, by rw [if_pos (by simp; omega)], ?_⟩
      rw [if_neg (fun h => q (h i hi))]) (by
    rintro - hI
    refine ⟨.go (), by simp only [mancala_May_L1]; rw [if_neg (by simp)], ?_⟩
    rw [if_pos (show okB b from hI)])
  obtain ⟨r, hr, rfl⟩ := key
  have hr' : loop (mancala_May_L1 b) (1000, 0) = _ := hr
  unfold mancala_May_J1
  rw [hr', Option.bind_some]
  by_cases h : okB b
  · rw [if_pos h, decide_eq_true h]; rfl
  · rw [if_neg h, decide_eq_false h]; rfl

open Classical in
theorem may_r {b : List Int} (hl : b.length ≤ 14) : gameroomref_MancalaMay_J1 b = some (decide (okB b)) := by
  have key := count_loop (step := gameroomref_MancalaMay_L1 b) (fun (_ : Unit) (i : Nat) => (sm i (fun k => geti b (k : Int)), (i : Int))) (fun n _ => ∀ i : Nat, i < n → 0 ≤ geti b (i : Int) ∧ geti b (i : Int) ≤ 1000) (fun r => gameroomref_MancalaMay_K1 r = some (decide (okB b))) b.length () (fun i h => by omega) (by
    rintro i - hi hI
    have e1 : gameroomref_MancalaMay_L1 b (sm i (fun k => geti b (k : Int)), (i : Int)) = gameroomref_MancalaMay_J3 b (sm i (fun k => geti b (k : Int))) i := if_pos (decide_eq_true (by omega))
    have hs := sums (b := b) (n := i) hI
    have es := sm_succ i (fun k => geti b (k : Int))
    rw [e1]
    unfold gameroomref_MancalaMay_J3 gameroomref_MancalaMay_J5 gameroomref_MancalaMay_J4 gameroomref_within_m
    rw [asrt_pos (by omega), Option.bind_some, asrt_pos (by omega)]
    by_cases q : 0 ≤ geti b (i : Int) ∧ geti b (i : Int) ≤ 1000
    · left
      refine ⟨(), ?_, fun k hk => ?_⟩
      · rw [if_neg (by simp; omega), w64_of (x := (i : Int) + 1) (by omega), w64_of (by omega), es]; rfl
      · by_cases e : k = i
        · rw [e]; exact q
        · exact hI k (by omega)
    · right
      refine ⟨.ret false, by rw [if_pos (by simp; omega)], ?_⟩
      have : ¬ okB b := fun h => q (okB_small (Nat.le_refl _) h i hi)
      rw [decide_eq_false this]; rfl) (by
    rintro - hI
    refine ⟨.go (sm b.length (fun k => geti b (k : Int))), by simp only [gameroomref_MancalaMay_L1]; rw [if_neg (by simp)], ?_⟩
    simp only [gameroomref_MancalaMay_K1, gameroomref_MancalaMay_J2]
    congr 1
    rw [decide_eq_decide]
    constructor
    · intro h i hi
      refine ⟨(hI i hi).1, ?_⟩
      -- the sums grow
      have mono : ∀ d, i + 1 + d ≤ b.length → sm (i + 1) (fun k => geti b (k : Int)) ≤ sm (i + 1 + d) (fun k => geti b (k : Int)) := by
        intro d
        induction d with
        | zero => intro _; exact Int.le_refl _
        | succ d ih =>
          intro hd
          have := ih (by omega)
          have h1 := hI (i + 1 + d) (by omega)
          rw [show i + 1 + (d + 1) = (i + 1 + d) + 1 by omega, sm_succ (i + 1 + d)]
          omega
      have := mono (b.length - (i + 1)) (by omega)
      rw [show i + 1 + (b.length - (i + 1)) = b.length by omega] at this
      omega
    · intro h
      rcases Nat.eq_zero_or_pos b.length with e | e
      · rw [e]; show (0 : Int) ≤ 1000; decide
      · have := (h (b.length - 1) (by omega)).2
        rwa [show b.length - 1 + 1 = b.length by omega] at this)
  obtain ⟨r, hr, hp⟩ := key
  have hr' : loop (gameroomref_MancalaMay_L1 b) (0, 0) = some r := hr
  unfold gameroomref_MancalaMay_J1
  rw [hr', Option.bind_some, hp]

theorem may_both (b1 : List Int) (b2 : Int) (hl : b1.length ≤ 17592186043904) : ∃ v, mancala_May_m b1 b2 = some v ∧ gameroomref_MancalaMay_m b1 b2 = some v := by
  classical
  unfold mancala_May_m gameroomref_MancalaMay_m gameroomref_within_m
  rw [band1 _ (by omega), show Int.tmod (b1.length : Int) 2 = ((b1.length % 2 : Nat) : Int) from tmod_nat b1.length 2, Option.bind_some]
  by_cases h : 4 ≤ b1.length ∧ b1.length ≤ 14
  · rw [show (decide ((4 : Int) ≤ (b1.length : Int)) && decide ((b1.length : Int) ≤ 14)) = true by simp; omega]
    by_cases h2 : b1.length % 2 = 1
    · rw [if_pos (by simp <;> omega), if_neg (by simp <;> omega), Option.bind_some, if_pos (by simp <;> omega)]
      exact ⟨_, rfl, rfl⟩
    · rw [if_pos (show (!((!true) || (((b1.length % 2 : Nat) : Int) == 1))) = true by simp; omega), Option.bind_some]
      by_cases h3 : 0 ≤ b2 ∧ b2 ≤ 1
      · rw [if_neg (by simp; omega), if_neg (by simp; omega), may_p h.2, may_r h.2]
        exact ⟨_, rfl, rfl⟩
      · rw [if_pos (by simp; omega), if_pos (by simp; omega)]
        exact ⟨_, rfl, rfl⟩
  · rw [show (decide ((4 : Int) ≤ (b1.length : Int)) && decide ((b1.length : Int) ≤ 14)) = false by simp; omega]
    rw [if_pos (by simp; omega), if_neg (by simp), Option.bind_some, if_pos (by simp)]
    exact ⟨_, rfl, rfl⟩

/-- Two rows in one. -/
theorem concat_p {a b : List Int} (ha : a.length ≤ 1000) (hb : b.length ≤ 1000) : slices_Concat_m [a, b] = some (a ++ b) := by
  have l1 : loop (slices_Concat_L1 [a, b]) (0, 0) = some ((a.length : Int) + b.length) := by
    refine loop_next' (s' := ((a.length : Int), 1)) ?_ (loop_next' (s' := ((a.length : Int) + b.length, 2)) ?_ (loop_done ?_))
    · simp only [slices_Concat_L1, slices_Concat_J2, slices_Concat_J3]
      rw [if_pos (by rfl), asrt_pos (by simp), show geti2 [a, b] 0 = a from rfl, w64_of (x := (0 : Int) + (a.length : Int)) (by omega), if_neg (by simp <;> omega), Int.zero_add, w64_of (x := (0 : Int) + 1) (by decide)]; rfl
    · simp only [slices_Concat_L1, slices_Concat_J2, slices_Concat_J3]
      rw [if_pos (by rfl), asrt_pos (by simp), show geti2 [a, b] 1 = b from rfl, w64_of (x := (a.length : Int) + (b.length : Int)) (by omega), if_neg (by simp; omega)]; rfl
    · simp only [slices_Concat_L1]; rw [if_neg (by simp)]
  have gr : slices_Grow_m ((a.length : Int) + b.length) = some [] := by
    unfold slices_Grow_m slices_Grow_J1 slices_Grow_J2
    have e : w64 ((a.length : Int) + b.length - w64 (0 - 0)) = (a.length : Int) + b.length := by
      rw [w64_of (x := 0 - 0) (by decide), w64_of (by omega)]; omega
    rw [if_neg (by simp; omega), e]
    by_cases q : 0 < (a.length : Int) + b.length
    · rw [if_pos (decide_eq_true q), asrt_pos (by unfold bigN; omega), asrt_pos (by omega)]
      unfold cut; simp
    · rw [if_neg (by simpa using q)]
  have l2 : loop (slices_Concat_L2 [a, b]) ([], 0) = some (a ++ b) := by
    refine loop_next' (s' := (a, 1)) ?_ (loop_next' (s' := (a ++ b, 2)) ?_ (loop_done ?_))
    · simp only [slices_Concat_L2, slices_Concat_J5, slices_Concat_J6]
      rw [if_pos (by rfl), asrt_pos (by simp), show geti2 [a, b] 0 = a from rfl, asrt_pos (by simp only [List.length_nil]; unfold bigN; omega), List.nil_append]; rfl
    · simp only [slices_Concat_L2, slices_Concat_J5, slices_Concat_J6]
      rw [if_pos (by rfl), asrt_pos (by simp), show geti2 [a, b] 1 = b from rfl, asrt_pos (by unfold bigN; omega)]; rfl
    · simp only [slices_Concat_L2]; rw [if_neg (by simp)]
  unfold slices_Concat_m
  rw [l1, Option.bind_some]
  simp only [slices_Concat_K1]
  unfold slices_Concat_J1
  rw [gr, Option.bind_some, l2]; rfl

end Go.Proofs.Ytogecbgngnjhgaa
