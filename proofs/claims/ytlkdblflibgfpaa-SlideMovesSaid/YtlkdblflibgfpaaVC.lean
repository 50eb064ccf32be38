/-
  SlideMoves: the moves in a row, the least number, whether it can be brought home, and the law.
-/
import Derived.Test.YtlkdblflibgfpaaVB
import Derived.Test.YtlkdblflibgfpaaLibK
namespace Go.Proofs.Ytlkdblflibgfpaa
open Go Go.GL

section
variable {a b : Nat} (ha : 2 ≤ a ∧ a ≤ 5) (hb : 2 ≤ b ∧ b ≤ 5) (hN : a * b ≤ 25)
include ha hb hN

theorem run_both {l : List Int} (hl : l.length ≤ 17592186043904) {r2 : Int × Int × List Int × Int} (e1 : r2.1 = a) (e2 : r2.2.1 = b) : ∀ (m k : Nat) (c : List Int) (g : Nat), k + m = l.length → c.length = a * b → Gap c g →
    ∃ c' n no, (∃ x, loop (slide_Do_L1 l r2) (c, (g : Int), (k : Int)) = some x ∧ slide_Do_K1 l r2 x = some ((a : Int), (b : Int), c', n, no)) ∧ loop (gameroomlaw_SlideMoves_L1 l) ((a : Int), (b : Int), c, (k : Int), 0, (k : Int)) = some ((a : Int), (b : Int), c', n, no) ∧ c'.length = a * b := by
  intro m
  induction m with
  | zero =>
    intro k c g hk hc hg
    obtain rfl : k = l.length := by omega
    refine ⟨c, (l.length : Int), 0, ⟨.go (c, (g : Int)), loop_done (by simp only [slide_Do_L1]; rw [if_neg (by simp)]), ?_⟩, loop_done (by simp only [gameroomlaw_SlideMoves_L1]; rw [if_neg (by simp)]), hc⟩
    simp only [slide_Do_K1, slide_Do_J2]; rw [e1, e2]
  | succ m ih =>
    intro k c g hk hc hg
    have hm := move_p (g := g) ha hb hc (by have := hg.1; omega) (geti l (k : Int))
    have hr := move_r ha hb hc hN hg (geti l (k : Int))
    have hbd := tgt_bd ha hb (g := g) (geti l (k : Int))
    have hne := tgt_ne (b := b) ha (g := g) (geti l (k : Int))
    have s1 : slide_Do_L1 l r2 (c, (g : Int), (k : Int)) = slide_Do_J3 l r2 c g k := if_pos (decide_eq_true (by omega))
    have s2 : gameroomlaw_SlideMoves_L1 l ((a : Int), (b : Int), c, (k : Int), 0, (k : Int)) = gameroomlaw_SlideMoves_J3 l a b c k 0 k := if_pos (by simp; omega)
    unfold slide_Do_J3 at s1
    unfold gameroomlaw_SlideMoves_J3 at s2
    rw [asrt_pos (by omega), e1, e2, hm, Option.bind_some] at s1
    rw [asrt_pos (by omega), hr, Option.bind_some] at s2
    generalize tgt a b g (geti l (k : Int)) = t at *
    by_cases q : 0 ≤ t
    · obtain ⟨u, rfl⟩ : ∃ u : Nat, t = (u : Int) := ⟨t.toNat, by omega⟩
      have hmv := hg.move (t := u) (by omega) (by omega)
      obtain ⟨c', n, no, ⟨x, hx1, hx2⟩, h2, h3⟩ := ih (k + 1) ((c.set g (geti c (u : Int))).set u 0) u (by omega) (by simp [hc]) hmv
      refine ⟨c', n, no, ⟨x, loop_next' (s1.trans ?_) hx1, hx2⟩, loop_next' (s2.trans ?_) h2, h3⟩
      · rw [if_pos q, if_neg (by simp)]
        simp only [slide_Do_J4]
        rw [w64_of (by omega)]; rfl
      · unfold gameroomlaw_SlideMoves_J5
        rw [if_pos q, decide_eq_true q, if_neg (by simp)]
        simp only [gameroomlaw_SlideMoves_J4]
        rw [w64_of (by omega)]; rfl
    · refine ⟨c, (k : Int), 8, ⟨.ret ((a : Int), (b : Int), c, (k : Int), 8), loop_done (s1.trans ?_), rfl⟩, loop_next' (s2.trans ?_) (loop_done (s := ((a : Int), (b : Int), c, (k : Int), 8, (k : Int) + 1)) ?_), hc⟩
      · rw [if_neg q, if_pos (by simp)]
      · unfold gameroomlaw_SlideMoves_J5
        rw [if_neg q, decide_eq_false q, if_pos (by simp)]
        simp only [gameroomlaw_SlideMoves_J4]
        rw [w64_of (by omega)]
      · simp only [gameroomlaw_SlideMoves_L1]; rw [if_neg (by simp)]

/-- How far. -/
def ab (x : Int) : Int := if x < 0 then -x else x
omit ha hb hN in
theorem max_ab {d : Int} (h : -1000 ≤ d ∧ d ≤ 1000) : maxI (w64 d) (w64 (0 - w64 d)) = ab d := by
  rw [w64_of (x := d) (by omega), w64_of (by omega)]
  unfold maxI ab
  split <;> split <;> omega
omit ha hb hN in
theorem size_ab {d : Int} (h : -1000 ≤ d ∧ d ≤ 1000) : gameroomref_size_m (w64 d) = some (ab d) := by
  rw [w64_of (x := d) (by omega)]
  unfold gameroomref_size_m gameroomref_size_J1 ab
  by_cases q : d < 0
  · rw [if_pos (decide_eq_true q), if_pos q, w64_of (by omega)]; congr 1; omega
  · rw [if_neg (by simpa using q), if_neg q]

def far (a s i : Nat) : Int := if s = 0 then 0 else ab ((i % a : Nat) - ((s - 1) % a : Nat)) + ab ((i / a : Nat) - ((s - 1) / a : Nat))
omit ha hb hN in
theorem ab_bd {x y : Nat} {n : Int} (hx : (x : Int) ≤ n) (hy : (y : Int) ≤ n) : 0 ≤ ab ((x : Int) - y) ∧ ab ((x : Int) - y) ≤ n ∧ -n ≤ (x : Int) - y ∧ (x : Int) - y ≤ n := by
  unfold ab
  split <;> omega
omit ha hb hN in
theorem far_bd {s i : Nat} (hs : s ≤ 25) (hi : i ≤ 25) : 0 ≤ far a s i ∧ far a s i ≤ 50 := by
  unfold far
  have h1 := Nat.mod_le i a
  have h2 := Nat.mod_le (s - 1) a
  have h3 := Nat.div_le_self i a
  have h4 := Nat.div_le_self (s - 1) a
  have := ab_bd (x := i % a) (y := (s - 1) % a) (n := 25) (by omega) (by omega)
  have := ab_bd (x := i / a) (y := (s - 1) / a) (n := 25) (by omega) (by omega)
  split <;> omega

omit hb in
theorem least_p {c : List Int} (hc : c.length = a * b) (ho : Ord c) : slide_Least_J1 a c = some (sm (a * b) (fun i => far a (val c i) i), 0) := by
  have bd : ∀ n, n ≤ a * b → 0 ≤ sm n (fun i => far a (val c i) i) ∧ sm n (fun i => far a (val c i) i) ≤ 50 * n := fun n hn => by
    have := sm_bd (f := fun i => far a (val c i) i) (a := 0) (b := 50) n (fun i hi => far_bd (by have := (ho.val_eq (i := i) (by omega)).2; omega) (by omega))
    omega
  have h := loop_from (step := slide_Least_L1 a c) (s0 := (0, 0)) (r := sm (a * b) (fun i => far a (val c i) i)) (fun k => (sm k (fun i => far a (val c i) i), (k : Int))) (a * b) rfl (by
    intro k hk
    have e1 : slide_Least_L1 a c (sm k (fun i => far a (val c i) i), (k : Int)) = slide_Least_J3 a c (sm k (fun i => far a (val c i) i)) k := if_pos (decide_eq_true (by omega))
    have hv := ho.val_eq (i := k) (by omega)
    have b1 := bd k (by omega)
    have hf := far_bd (a := a) (s := val c k) (i := k) (by omega) (by omega)
    rw [e1, sm_succ]
    generalize sm k (fun i => far a (val c i) i) = S at *
    unfold slide_Least_J3 slide_Least_J4
    rw [asrt_pos (by omega), hv.1]
    generalize val c k = s at *
    have ek : w64 ((k : Int) + 1) = ((k + 1 : Nat) : Int) := by rw [w64_of (by omega)]; rfl
    by_cases q : s = 0
    · rw [if_neg (by simp; omega), ek]
      unfold far
      rw [if_pos q, Int.add_zero]
    · have ha0 : (a : Int) ≠ 0 := by omega
      rw [if_pos (decide_eq_true (by omega)), asrt_pos ha0, asrt_pos ha0, asrt_pos ha0, asrt_pos ha0, ek]
      have es : w64 ((s : Int) - 1) = ((s - 1 : Nat) : Int) := by rw [w64_of (by omega)]; omega
      have ed : far a s k = ab ((k % a : Nat) - ((s - 1) % a : Nat)) + ab ((k / a : Nat) - ((s - 1) / a : Nat)) := if_neg q
      have h1 := Nat.mod_le k a
      have h2 := Nat.mod_le (s - 1) a
      have h3 := Nat.div_le_self k a
      have h4 := Nat.div_le_self (s - 1) a
      have q1 := ab_bd (x := k % a) (y := (s - 1) % a) (n := 25) (by omega) (by omega)
      have q2 := ab_bd (x := k / a) (y := (s - 1) / a) (n := 25) (by omega) (by omega)
      rw [es, tmod_nat, tmod_nat, tdiv_nat, tdiv_nat]
      generalize k % a = x1 at *
      generalize k / a = x2 at *
      generalize (s - 1) % a = x3 at *
      generalize (s - 1) / a = x4 at *
      rw [w64_nat (k := x2) (by omega), w64_nat (k := x4) (by omega), max_ab (by omega), max_ab (by omega), ← ed, w64_of (x := far a s k) (by omega), w64_of (by omega)]) (by
    simp only [slide_Least_L1]; rw [if_neg (by simp [hc])])
  unfold slide_Least_J1
  rw [h]; rfl

/-- The home board. -/
def homeB (n : Nat) : List Int := mr n (fun i => (((i + 1) % n : Nat) : Int))
theorem home_r : gameroomref_SlideHome_m a b = some ((a : Int), (b : Int), homeB (a * b)) := by
  have h0 : 0 < a * b := Nat.mul_pos (by omega) (by omega)
  have e : w64 ((a : Int) * b) = ((a * b : Nat) : Int) := by rw [← Int.natCast_mul, w64_nat (by omega)]
  have h := loop_from (step := gameroomref_SlideHome_L1 a b) (s0 := ([], 1)) (r := homeB (a * b)) (fun k => (mr k (fun i => (((i + 1) % (a * b) : Nat) : Int)), (k : Int) + 1)) (a * b) rfl (by
    intro k hk
    simp only [gameroomref_SlideHome_L1, gameroomref_SlideHome_J2, gameroomref_SlideHome_J3]
    rw [e, if_pos (decide_eq_true (by omega)), asrt_pos (by omega), asrt_pos (by rw [mr_length]; unfold bigN; omega), w64_of (by omega), show (k : Int) + 1 = ((k + 1 : Nat) : Int) from rfl, tmod_nat, mr_snoc]) (by
    simp only [gameroomref_SlideHome_L1]
    rw [e, if_neg (by simp; omega)]; rfl)
  unfold gameroomref_SlideHome_m
  rw [h]; rfl

omit ha hb in
theorem home_at {s : Nat} (hs : 1 ≤ s ∧ s < a * b) : gameroomref_at_m (homeB (a * b)) s = some ((s - 1 : Nat) : Int) := by
  refine at_first (by unfold homeB; rw [mr_length]; omega) ?_ (fun j hj => ?_) (by unfold homeB; rw [mr_length]; omega)
  · unfold homeB
    rw [mr_geti (by omega), Nat.mod_eq_of_lt (by omega)]; omega
  · unfold homeB
    rw [mr_geti (by omega), Nat.mod_eq_of_lt (by omega)]; omega

omit ha hb hN in
theorem ord_at {c : List Int} (ho : Ord c) {j : Nat} (hj : j < c.length) (hc : c.length ≤ 1000) : gameroomref_at_m c j = some (pos c j : Int) :=
  at_first (ho.pos_lt hj) (ho.at_pos hj) (fun _ h => before_pos h) hc

theorem least_r {c : List Int} (hc : c.length = a * b) (ho : Ord c) : gameroomref_SlideLeast_m a b c = some (sm (a * b) (fun i => far a (val c i) i)) := by
  have hi := ho.inv
  rw [hc] at hi
  have h0 : 0 < a * b := Nat.mul_pos (by omega) (by omega)
  have e0 : sm (a * b) (fun i => far a (val c i) i) = sm (a * b) (fun s => far a s (pos c s)) := by
    rw [← sm_inv hi]
    exact sm_congr _ fun s hs => by rw [hi.vp s hs]
  have bd : ∀ n, n ≤ a * b → 0 ≤ sm n (fun s => far a s (pos c s)) ∧ sm n (fun s => far a s (pos c s)) ≤ 50 * n := fun n hn => by
    have := sm_bd (f := fun s => far a s (pos c s)) (a := 0) (b := 50) n (fun i hi2 => far_bd (by omega) (by have := hi.pl i (by omega); omega))
    omega
  have h := loop_from (step := gameroomref_SlideLeast_L1 a c ((a : Int), (b : Int), homeB (a * b))) (s0 := (0, 1)) (r := sm (a * b) (fun s => far a s (pos c s))) (fun k => (sm (k + 1) (fun s => far a s (pos c s)), (k : Int) + 1)) (a * b - 1) (by
      show (sm 1 (fun s => far a s (pos c s)), _) = _
      rw [sm_succ]; rfl) (by
    intro k hk
    have e1 : gameroomref_SlideLeast_L1 a c ((a : Int), (b : Int), homeB (a * b)) (sm (k + 1) (fun s => far a s (pos c s)), (k : Int) + 1) = gameroomref_SlideLeast_J2 a c ((a : Int), (b : Int), homeB (a * b)) (sm (k + 1) (fun s => far a s (pos c s))) ((k + 1 : Nat) : Int) := if_pos (decide_eq_true (by omega))
    have b1 := bd (k + 1) (by omega)
    have hp := hi.pl (k + 1) (by omega)
    have hf := far_bd (a := a) (s := k + 1) (i := pos c (k + 1)) (by omega) (by omega)
    rw [e1, sm_succ (k + 1)]
    generalize sm (k + 1) (fun s => far a s (pos c s)) = S at *
    unfold gameroomref_SlideLeast_J2 gameroomref_SlideLeast_J3
    rw [ord_at ho (by omega) (by omega), Option.bind_some, home_at hN (by omega), Option.bind_some]
    generalize pos c (k + 1) = i at *
    have ed : far a (k + 1) i = ab ((i % a : Nat) - (k % a : Nat)) + ab ((i / a : Nat) - (k / a : Nat)) := if_neg (by omega)
    have h1 := Nat.mod_le k a
    have h2 := Nat.mod_le i a
    have h3 := Nat.div_le_self k a
    have h4 := Nat.div_le_self i a
    have q1 := ab_bd (x := i % a) (y := k % a) (n := 25) (by omega) (by omega)
    have q2 := ab_bd (x := i / a) (y := k / a) (n := 25) (by omega) (by omega)
    have ha0 : (a : Int) ≠ 0 := by omega
    rw [asrt_pos ha0, asrt_pos ha0, Nat.add_sub_cancel, tmod_nat, tmod_nat, tdiv_nat, tdiv_nat]
    generalize k % a = x1 at *
    generalize k / a = x2 at *
    generalize i % a = x3 at *
    generalize i / a = x4 at *
    rw [w64_nat (k := x2) (by omega), w64_nat (k := x4) (by omega), size_ab (by omega), Option.bind_some, asrt_pos ha0, asrt_pos ha0, size_ab (by omega), Option.bind_some, ← ed, w64_of (x := far a (k + 1) i) (by omega), w64_of (x := ((k + 1 : Nat) : Int) + 1) (by omega), w64_of (by omega)]) (by
    simp only [gameroomref_SlideLeast_L1]
    rw [if_neg (by simp; omega), show a * b - 1 + 1 = a * b by omega])
  unfold gameroomref_SlideLeast_m
  rw [home_r ha hb hN, Option.bind_some, h, e0]; rfl

/-- Inversions of stones; of places. -/
def invA (c : List Int) (n : Nat) : Int := sm n (fun i => sm i (fun k => if 0 < val c i ∧ val c i < val c k then 1 else 0))
def invB (c : List Int) (m n : Nat) : Int := sm n (fun i => sm i (fun k => if pos c ((i + 1) % m) < pos c ((k + 1) % m) then 1 else 0))
omit ha hb hN in
theorem ind_bd (p : Nat → Prop) [DecidablePred p] (n : Nat) : 0 ≤ sm n (fun k => if p k then (1 : Int) else 0) ∧ sm n (fun k => if p k then (1 : Int) else 0) ≤ n := by
  have := sm_bd (f := fun k => if p k then (1 : Int) else 0) (a := 0) (b := 1) n (fun i _ => by split <;> omega)
  omega
omit ha hb hN in
theorem ind2_bd (p : Nat → Nat → Prop) [∀ i, DecidablePred (p i)] {n : Nat} (hn : n ≤ 25) : 0 ≤ sm n (fun i => sm i (fun k => if p i k then (1 : Int) else 0)) ∧ sm n (fun i => sm i (fun k => if p i k then (1 : Int) else 0)) ≤ 625 := by
  have := sm_bd (f := fun i => sm i (fun k => if p i k then (1 : Int) else 0)) (a := 0) (b := 25) n (fun i hi => by
    have := ind_bd (p i) i
    omega)
  omega

omit ha hb in
theorem inv_loop {c : List Int} (hc : c.length = a * b) (ho : Ord c) : loop (slide_parity_L1 c) (0, 0) = some (invA c (a * b)) := by
  refine loop_from (step := slide_parity_L1 c) (s0 := (0, 0)) (r := invA c (a * b)) (fun k => (invA c k, (k : Int))) (a * b) rfl ?_ ?_
  · intro i hi
    have e1 : slide_parity_L1 c (invA c i, (i : Int)) = slide_parity_J2 c (invA c i) i := if_pos (decide_eq_true (by omega))
    have hv := ho.val_eq (i := i) (by omega)
    have b1 := ind2_bd (fun i k => 0 < val c i ∧ val c i < val c k) (n := i) (by omega)
    have e2 : invA c (i + 1) = invA c i + sm i (fun k => if 0 < val c i ∧ val c i < val c k then (1 : Int) else 0) := rfl
    have b2 : 0 ≤ invA c i ∧ invA c i ≤ 625 := b1
    have b3 := fun n => ind_bd (fun k => 0 < val c i ∧ val c i < val c k) n
    show slide_parity_L1 c (invA c i, (i : Int)) = some (.next (invA c (i + 1), ((i + 1 : Nat) : Int)))
    rw [e1, e2]
    generalize invA c i = S at *
    have ec : cut c (0 : Int) (i : Int) = c.take i := by simp [cut]
    have el : (c.take i).length = i := by rw [List.length_take]; omega
    unfold slide_parity_J2
    rw [asrt_pos (by omega), asrt_pos (by omega)]
    have h := loop_from (step := slide_parity_L2 c i) (s0 := (S, 0)) (r := S + sm i (fun k => if 0 < val c i ∧ val c i < val c k then (1 : Int) else 0)) (fun n => (S + sm n (fun k => if 0 < val c i ∧ val c i < val c k then (1 : Int) else 0), (n : Int))) i (by show (S + 0, _) = _; rw [Int.add_zero]; rfl) (by
      intro k hk
      have e3 : slide_parity_L2 c i (S + sm k (fun k => if 0 < val c i ∧ val c i < val c k then (1 : Int) else 0), (k : Int)) = slide_parity_J4 c i (S + sm k (fun k => if 0 < val c i ∧ val c i < val c k then (1 : Int) else 0)) k := if_pos (decide_eq_true (by rw [ec, el]; omega))
      have b4 := b3 k
      have hk2 := ho.val_eq (i := k) (by omega)
      have eg : geti (c.take i) (k : Int) = geti c (k : Int) := by
        rw [geti_nat, geti_nat, List.getD_eq_getElem?_getD, List.getD_eq_getElem?_getD, List.getElem?_take, if_pos hk]
      rw [e3, sm_succ]
      generalize sm k (fun k => if 0 < val c i ∧ val c i < val c k then (1 : Int) else 0) = T at *
      unfold slide_parity_J4 slide_parity_J5
      rw [ec, asrt_pos (by rw [el]; omega), eg, hv.1, hk2.1, w64_of (x := (k : Int) + 1) (by omega)]
      by_cases q : 0 < val c i ∧ val c i < val c k
      · rw [if_pos (by simp; omega), if_pos q, w64_of (by omega), Int.add_assoc]; rfl
      · rw [if_neg (by simp; omega), if_neg q, Int.add_zero]; rfl) (by
      simp only [slide_parity_L2]
      rw [if_neg (by rw [ec, el]; simp)])
    rw [h, Option.bind_some]
    simp only [slide_parity_K2, slide_parity_J3]
    rw [w64_of (by omega)]; rfl
  · simp only [slide_parity_L1]
    rw [if_neg (by simp [hc])]

def sg (x : Int) : Int := if x % 2 = 0 then 1 else -1
omit ha hb hN in
theorem sg_neg (x : Int) : w64 (0 - sg x) = sg (x + 1) := by
  unfold sg
  by_cases h : x % 2 = 0
  · rw [if_pos h, if_neg (by omega)]; decide
  · rw [if_neg h, if_pos (by omega)]; decide

/-- The places, in the order of the home board. -/
def places (c : List Int) (n : Nat) : List Int := mr n (fun i => (pos c ((i + 1) % n) : Int))

omit ha hb in
theorem sign_r (c : List Int) : gameroomref_SignOf_m (places c (a * b)) = some (sg (invB c (a * b) (a * b))) := by
  have hlen : (places c (a * b)).length = a * b := mr_length _ _
  have hg : ∀ {i : Nat}, i < a * b → geti (places c (a * b)) (i : Int) = (pos c ((i + 1) % (a * b)) : Int) := fun h => mr_geti h
  generalize places c (a * b) = l at *
  have h := loop_from (step := gameroomref_SignOf_L1 l) (s0 := (1, 0)) (r := sg (invB c (a * b) (a * b))) (fun k => (sg (invB c (a * b) k), (k : Int))) (a * b) rfl (by
    intro i hi
    have e1 : gameroomref_SignOf_L1 l (sg (invB c (a * b) i), (i : Int)) = gameroomref_SignOf_J2 l (sg (invB c (a * b) i)) i := if_pos (decide_eq_true (by omega))
    have e2 : invB c (a * b) (i + 1) = invB c (a * b) i + sm i (fun k => if pos c ((i + 1) % (a * b)) < pos c ((k + 1) % (a * b)) then (1 : Int) else 0) := rfl
    rw [e1, e2]
    generalize invB c (a * b) i = S at *
    unfold gameroomref_SignOf_J2
    have h := loop_from (step := gameroomref_SignOf_L2 l i) (s0 := (sg S, 0)) (r := sg (S + sm i (fun k => if pos c ((i + 1) % (a * b)) < pos c ((k + 1) % (a * b)) then (1 : Int) else 0))) (fun n => (sg (S + sm n (fun k => if pos c ((i + 1) % (a * b)) < pos c ((k + 1) % (a * b)) then (1 : Int) else 0)), (n : Int))) i (by show (sg (S + 0), _) = _; rw [Int.add_zero]; rfl) (by
      intro k hk
      have e3 : gameroomref_SignOf_L2 l i (sg (S + sm k (fun k => if pos c ((i + 1) % (a * b)) < pos c ((k + 1) % (a * b)) then (1 : Int) else 0)), (k : Int)) = gameroomref_SignOf_J4 l i (sg (S + sm k (fun k => if pos c ((i + 1) % (a * b)) < pos c ((k + 1) % (a * b)) then (1 : Int) else 0))) k := if_pos (decide_eq_true (by omega))
      rw [e3, sm_succ]
      generalize sm k (fun k => if pos c ((i + 1) % (a * b)) < pos c ((k + 1) % (a * b)) then (1 : Int) else 0) = T at *
      unfold gameroomref_SignOf_J4 gameroomref_SignOf_J5
      rw [asrt_pos (by omega), asrt_pos (by omega), hg hi, hg (show k < a * b by omega), w64_of (x := (k : Int) + 1) (by omega)]
      by_cases q : pos c ((i + 1) % (a * b)) < pos c ((k + 1) % (a * b))
      · rw [if_pos (by simp; omega), if_pos q, sg_neg, Int.add_assoc]; rfl
      · rw [if_neg (by simp; omega), if_neg q, Int.add_zero]; rfl) (by
      simp only [gameroomref_SignOf_L2]
      rw [if_neg (by simp)])
    rw [h, Option.bind_some]
    simp only [gameroomref_SignOf_K2, gameroomref_SignOf_J3]
    rw [w64_of (by omega)]; rfl) (by
    simp only [gameroomref_SignOf_L1]
    rw [if_neg (by simp [hlen])])
  unfold gameroomref_SignOf_m
  rw [h]; rfl

theorem places_r {c : List Int} (hc : c.length = a * b) (ho : Ord c) : loop (gameroomref_SlideCan_L1 c ((a : Int), (b : Int), homeB (a * b))) ([], 0) = some (places c (a * b)) := by
  have h0 : 0 < a * b := Nat.mul_pos (by omega) (by omega)
  have hlen : (homeB (a * b)).length = a * b := mr_length _ _
  refine loop_from (r := places c (a * b)) (fun k => (mr k (fun i => (pos c ((i + 1) % (a * b)) : Int)), (k : Int))) (a * b) rfl ?_ ?_
  · intro k hk
    have hm : (k + 1) % (a * b) < a * b := Nat.mod_lt _ h0
    simp only [gameroomref_SlideCan_L1, gameroomref_SlideCan_J2, gameroomref_SlideCan_J3]
    rw [if_pos (decide_eq_true (by omega)), asrt_pos (by omega)]
    have hg : geti (homeB (a * b)) (k : Int) = (((k + 1) % (a * b) : Nat) : Int) := mr_geti hk
    rw [hg, ord_at ho (by omega) (by omega), Option.bind_some, asrt_pos (by rw [mr_length]; unfold bigN; omega), mr_snoc, w64_of (by omega)]
    rfl
  · simp only [gameroomref_SlideCan_L1]
    rw [if_neg (by simp [hlen])]; rfl

theorem can_both {c : List Int} (hc : c.length = a * b) (ho : Ord c) : ∃ v, slide_Can_J1 a b c = some (v, 0) ∧ gameroomref_SlideCan_m a b c = some v := by
  have h0 : 0 < a * b := Nat.mul_pos (by omega) (by omega)
  obtain ⟨m, hm⟩ : ∃ m, a * b = m + 1 := ⟨a * b - 1, by omega⟩
  have hi := ho.inv
  rw [hc, hm] at hi
  have hboth : invB c (a * b) (a * b) = invA c (a * b) + ((m : Int) - pos c 0) := by
    rw [hm]; exact inv_both hi
  have hgap := Gap.ord ho (by omega)
  have bA : 0 ≤ invA c (a * b) ∧ invA c (a * b) ≤ 625 := ind2_bd (fun i k => 0 < val c i ∧ val c i < val c k) (n := a * b) hN
  have hg1 := hgap.1
  have hat := hgap.at (by omega)
  have hix := hgap.index (by omega)
  have hdm := Nat.div_add_mod (pos c 0) a
  have hy : pos c 0 / a < b := Nat.div_lt_of_lt_mul (by omega)
  have hx : pos c 0 % a < a := Nat.mod_lt _ (by omega)
  generalize pos c 0 = g at *
  have ha0 : (a : Int) ≠ 0 := by omega
  -- the program
  have p1 : slide_parity_m a b c = some ((invA c (a * b) + if a % 2 = 0 then (b : Int) - 1 - (g / a : Nat) else 0) % 2) := by
    have bn : ∀ x : Int, 0 ≤ x ∧ x ≤ 2000 → bAnd x 1 = x % 2 := fun x hx => by
      obtain ⟨u, rfl⟩ : ∃ u : Nat, x = (u : Int) := ⟨x.toNat, by omega⟩
      rw [band1 u (by omega)]; omega
    unfold slide_parity_m
    rw [inv_loop hN hc ho, Option.bind_some]
    simp only [slide_parity_K1]
    unfold slide_parity_J1 slide_parity_J6
    rw [band1 a (by omega)]
    by_cases q : a % 2 = 0
    · rw [if_pos (by simp; omega), if_pos q, hix, Option.bind_some, asrt_pos ha0, tdiv_nat]
      generalize g / a = y at *
      rw [w64_nat (k := y) (by omega), w64_of (x := (b : Int) - 1) (by omega), w64_of (x := (b : Int) - 1 - y) (by omega), w64_of (by omega), bn _ (by omega)]
    · rw [if_neg (by simp; omega), if_neg q, bn _ (by omega), Int.add_zero]
  refine ⟨_, by unfold slide_Can_J1; rw [p1]; rfl, ?_⟩
  -- the document
  unfold gameroomref_SlideCan_m
  rw [home_r ha hb hN, Option.bind_some, places_r ha hb hN hc ho, Option.bind_some]
  simp only [gameroomref_SlideCan_K1]
  unfold gameroomref_SlideCan_J1
  rw [hat, Option.bind_some, asrt_pos ha0, asrt_pos ha0, sign_r hN, Option.bind_some, hboth, tmod_nat, tdiv_nat]
  generalize invA c (a * b) = S at *
  have key : ((S + ((m : Int) - g)) % 2 = 0 ↔ ((a : Int) - 1 - (g % a : Nat) + b - 1 - (g / a : Nat)) % 2 = 0) ↔ (S + if a % 2 = 0 then (b : Int) - 1 - (g / a : Nat) else 0) % 2 = 0 := by
    clear hboth hi hgap hat hix p1 ho
    obtain rfl | rfl | rfl | rfl : a = 2 ∨ a = 3 ∨ a = 4 ∨ a = 5 := by omega
    all_goals (split <;> omega)
  generalize g / a = y at *
  generalize g % a = x at *
  rw [w64_nat (k := y) (by omega), w64_of (x := (a : Int) - 1) (by omega), w64_of (x := (a : Int) - 1 - x) (by omega), w64_of (x := (a : Int) - 1 - x + b) (by omega), w64_of (x := (a : Int) - 1 - x + b - 1) (by omega), w64_of (x := (a : Int) - 1 - x + b - 1 - y) (by omega)]
  have et : Int.tmod ((a : Int) - 1 - x + b - 1 - y) 2 = ((a : Int) - 1 - x + b - 1 - y) % 2 := Int.tmod_eq_emod_of_nonneg (by omega)
  have es : (sg (S + ((m : Int) - g)) == 1) = decide ((S + ((m : Int) - g)) % 2 = 0) := by
    unfold sg
    by_cases q : (S + ((m : Int) - g)) % 2 = 0
    · rw [if_pos q, decide_eq_true q]; rfl
    · rw [if_neg q, decide_eq_false q]; rfl
  rw [et, es]
  congr 1
  rw [Bool.eq_iff_iff]
  simp only [beq_iff_eq]
  rw [← key]
  constructor
  · intro h
    by_cases q : (S + ((m : Int) - g)) % 2 = 0
    · rw [decide_eq_true q] at h
      have := h.symm
      rw [beq_iff_eq] at this
      exact ⟨fun _ => this, fun _ => q⟩
    · rw [decide_eq_false q] at h
      have := h.symm
      rw [beq_eq_false_iff_ne] at this
      exact ⟨fun h => absurd h q, fun h => absurd h this⟩
  · intro h
    by_cases q : (S + ((m : Int) - g)) % 2 = 0
    · rw [decide_eq_true q, h.1 q]; rfl
    · rw [decide_eq_false q]
      symm
      rw [beq_eq_false_iff_ne]
      exact fun e => q (h.2 e)
end
end Go.Proofs.Ytlkdblflibgfpaa
