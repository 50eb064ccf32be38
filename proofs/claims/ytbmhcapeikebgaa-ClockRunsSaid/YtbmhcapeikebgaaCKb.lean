/-
  ClockRuns: one move of the device and of the document, all moves, and the law.
-/
import Derived.Test.YtbmhcapeikebgaaCKa
namespace Go.Proofs.Ytbmhcapeikebgaa
open Go Go.GL

theorem geti_set {l : List Int} {k j : Nat} {x : Int} (hk : k < l.length) : geti (l.set k x) (j : Int) = if j = k then x else geti l (j : Int) := by
  rw [geti_nat, geti_nat, List.getD_eq_getElem?_getD, List.getD_eq_getElem?_getD, List.getElem?_set]
  by_cases h : k = j
  · subst h; simp [hk]
  · rw [if_neg h, if_neg (fun e => h e.symm)]

/-- What a move takes; what it gives. -/
def tak (c2 c3 u : Int) : Int := if c2 = 3 then (if u - c3 < 0 then 0 else u - c3) else u
def bon (c2 c3 u : Int) : Int := if c2 = 1 then c3 else if c2 = 2 then (if c3 ≤ u then c3 else u) else 0
def top (i : Nat) : Int := 36000000 + (i : Int) * 72000000

section
variable {c1 c2 c3 c4 c5 : Int} (h3 : In36 c3) (h5 : In36 c5) (h4 : 0 ≤ c4 ∧ c4 ≤ 1000)
include h3 h5 h4

omit h5 h4 in
theorem tak_bd {u : Int} (hu : In36 u) : In36 (tak c2 c3 u) := by
  unfold In36 tak at *
  split
  · split <;> omega
  · omega
omit h5 h4 in
theorem bon_bd {u : Int} (hu : In36 u) : In36 (bon c2 c3 u) := by
  unfold In36 bon at *
  split
  · omega
  · split
    · split <;> omega
    · omega
omit h3 h4 in
theorem mor_bd (k : Nat) : In36 (mor c4 c5 k) := by
  unfold In36 mor at *
  split <;> omega

/-- The time after a move that is made. -/
def aft (c2 c3 c4 c5 : Int) (t : List Int) (i : Nat) (u : Int) : Int := geti t ((i % 2 : Nat) : Int) - tak c2 c3 u + bon c2 c3 u + mor c4 c5 (i / 2 + 1)

theorem press_p {t mk : List Int} {i : Nat} {u : Int} (hi : i < 200) (hu : In36 u) (ht : t.length = 2) (hm : mk.length = 2) (hb : 0 ≤ geti t ((i % 2 : Nat) : Int) ∧ geti t ((i % 2 : Nat) : Int) ≤ top i) (hk : geti mk ((i % 2 : Nat) : Int) = ((i / 2 : Nat) : Int)) :
    clock_device_press_m c1 c2 c3 c4 c5 t (-1) i mk u = some (if geti t ((i % 2 : Nat) : Int) < tak c2 c3 u then (false, t.set (i % 2) 0, ((i % 2 : Nat) : Int), (i : Int), mk) else (true, t.set (i % 2) (aft c2 c3 c4 c5 t i u), -1, (i : Int) + 1, mk.set (i % 2) ((i / 2 + 1 : Nat) : Int))) := by
  have hb1 := tak_bd (c2 := c2) h3 hu
  have hb2 := bon_bd (c2 := c2) h3 hu
  have hb3 := mor_bd (c4 := c4) h5 (i / 2 + 1)
  have hw : i % 2 < 2 := Nat.mod_lt _ (by omega)
  have hq : i / 2 ≤ i := Nat.div_le_self _ _
  have e : bAnd (i : Int) 1 = ((i % 2 : Nat) : Int) := band1 i (by omega)
  have htop : top i ≤ 36000000 + 200 * 72000000 := by unfold top; omega
  unfold aft
  generalize top i = X at *
  have key3 : ∀ V : Int, 0 ≤ V → V ≤ 100000000000 → clock_device_press_J3 c4 c5 (-1) i mk (t.set (i % 2) V) = some (true, t.set (i % 2) (V + mor c4 c5 (i / 2 + 1)), -1, (i : Int) + 1, mk.set (i % 2) ((i / 2 + 1 : Nat) : Int)) := by
    intro V hV hV2
    unfold clock_device_press_J3 clock_device_press_J4
    rw [e, Int.toNat_natCast, hk]
    rw [asrt_pos (by omega), asrt_pos (by omega), asrt_pos (by omega), asrt_pos (by intro _; omega), asrt_pos (by intro q; rw [decide_eq_true_eq] at q; omega)]
    rw [w64_of (x := ((i / 2 : Nat) : Int) + 1) (by omega), geti_set (by omega), if_pos rfl, w64_of (x := (i : Int) + 1) (by omega), show ((i / 2 : Nat) : Int) + 1 = ((i / 2 + 1 : Nat) : Int) from rfl]
    obtain ⟨m, rfl⟩ : ∃ m : Nat, c4 = (m : Int) := ⟨c4.toNat, by omega⟩
    unfold mor at hb3 ⊢
    rw [tmod_nat, Int.toNat_natCast]
    by_cases q : 0 < (m : Int) ∧ (i / 2 + 1) % m = 0
    · rw [if_pos (by rw [q.2]; simp; omega), if_pos q, asrt_pos (by rw [List.length_set]; omega), geti_set (by omega), if_pos rfl, List.set_set, w64_of (by unfold In36 at h5; omega)]
    · rw [if_neg (by simp only [Bool.and_eq_true, decide_eq_true_eq, beq_iff_eq]; intro z; exact q ⟨z.1, by omega⟩), if_neg q, Int.add_zero]
  have key1 : clock_device_press_J1 c2 c3 c4 c5 t (-1) i mk u (tak c2 c3 u) = some (if geti t ((i % 2 : Nat) : Int) < tak c2 c3 u then (false, t.set (i % 2) 0, ((i % 2 : Nat) : Int), (i : Int), mk) else (true, t.set (i % 2) (geti t ((i % 2 : Nat) : Int) - tak c2 c3 u + bon c2 c3 u + mor c4 c5 (i / 2 + 1)), -1, (i : Int) + 1, mk.set (i % 2) ((i / 2 + 1 : Nat) : Int))) := by
    unfold clock_device_press_J1
    rw [e]
    generalize tak c2 c3 u = T at *
    unfold In36 at hb1 hb2
    by_cases q : geti t ((i % 2 : Nat) : Int) < T
    · rw [if_pos (decide_eq_true q), if_pos q, asrt_pos (by omega), Int.toNat_natCast]
    · rw [if_neg (by simpa using q), if_neg q]
      unfold clock_device_press_J2
      rw [e, asrt_pos (by omega), Int.toNat_natCast, w64_of (by omega), List.length_set, asrt_pos (by omega), List.set_set, geti_set (by omega), if_pos rfl]
      unfold bon at hb2 ⊢
      by_cases q1 : c2 = 1
      · rw [if_pos q1] at hb2 ⊢
        rw [if_pos (by simpa using q1), w64_of (by omega), key3 _ (by omega) (by omega)]
      · rw [if_neg q1] at hb2 ⊢
        rw [if_neg (by simpa using q1)]
        by_cases q2 : c2 = 2
        · rw [if_pos q2] at hb2 ⊢
          have em : minI c3 u = if c3 ≤ u then c3 else u := by unfold minI; split <;> split <;> omega
          rw [if_pos (by simpa using q2), asrt_pos (by omega), List.set_set, em, w64_of (by omega), key3 _ (by omega) (by omega)]
        · rw [if_neg q2] at hb2 ⊢
          rw [if_neg (by simpa using q2), key3 _ (by omega) (by omega), Int.add_zero]
  unfold clock_device_press_m
  rw [e, asrt_pos (by omega)]
  by_cases q : c2 = 3
  · rw [if_pos (by simpa using q)]
    have em : maxI (w64 (u - c3)) 0 = tak c2 c3 u := by
      unfold tak maxI In36 at *
      rw [w64_of (by omega), if_pos q]
    rw [em]; exact key1
  · rw [if_neg (by simpa using q)]
    have em : u = tak c2 c3 u := by unfold tak; rw [if_neg q]
    rw [← em] at key1 ⊢; exact key1

theorem step_r {t left used : List Int} {i : Nat} (hi : i < 200) (hil : i < used.length) (hl : used.length ≤ 200) (hu : In36 (geti used (i : Int))) (ht : t.length = 2) (hb : 0 ≤ geti t ((i % 2 : Nat) : Int) ∧ geti t ((i % 2 : Nat) : Int) ≤ top i) (hlf : left.length ≤ 1000) :
    gameroomref_RunOf_L1 c2 c3 c4 c5 used (t, -1, i, left, i) = some (.next (if geti t ((i % 2 : Nat) : Int) < tak c2 c3 (geti used (i : Int)) then (t.set (i % 2) 0, ((i % 2 : Nat) : Int), (i : Int), left, (i : Int) + 1) else (t.set (i % 2) (aft c2 c3 c4 c5 t i (geti used (i : Int))), -1, (i : Int) + 1, left ++ [geti (t.set (i % 2) (aft c2 c3 c4 c5 t i (geti used (i : Int)))) ((1 - i % 2 : Nat) : Int)], (i : Int) + 1))) := by
  have hb1 := tak_bd (c2 := c2) h3 hu
  have hb2 := bon_bd (c2 := c2) h3 hu
  have hb3 := mor_bd (c4 := c4) h5 (i / 2 + 1)
  have hw : i % 2 < 2 := Nat.mod_lt _ (by omega)
  have hq : i / 2 ≤ i := Nat.div_le_self _ _
  have e : Int.tmod (i : Int) 2 = ((i % 2 : Nat) : Int) := tmod_nat i 2
  have e2 : Int.tdiv (i : Int) 2 = ((i / 2 : Nat) : Int) := tdiv_nat i 2
  have htop : top i ≤ 36000000 + 200 * 72000000 := by unfold top; omega
  have e1 : gameroomref_RunOf_L1 c2 c3 c4 c5 used (t, -1, i, left, i) = gameroomref_RunOf_J2 c2 c3 c4 c5 used t (-1) i left i := if_pos (decide_eq_true (by omega))
  rw [e1]
  unfold aft gameroomref_RunOf_J2
  rw [if_neg (by decide)]
  generalize hU : geti used (i : Int) = u at *
  generalize top i = X at *
  have key7 : ∀ V : Int, 0 ≤ V → V ≤ 100000000000 → gameroomref_RunOf_J7 c4 c5 (-1) i left i (t.set (i % 2) V) = some (.next (t.set (i % 2) (V + mor c4 c5 (i / 2 + 1)), -1, (i : Int) + 1, left ++ [geti (t.set (i % 2) (V + mor c4 c5 (i / 2 + 1))) ((1 - i % 2 : Nat) : Int)], (i : Int) + 1)) := by
    intro V hV hV2
    have key8 : ∀ x : List Int, gameroomref_RunOf_J8 (-1) i left i x = some (.next (x, -1, (i : Int) + 1, left ++ [geti x ((1 - i % 2 : Nat) : Int)], (i : Int) + 1)) := by
      intro x
      unfold gameroomref_RunOf_J8 gameroomref_RunOf_J3
      rw [e, w64_of (x := 1 - ((i % 2 : Nat) : Int)) (by omega), w64_of (x := (i : Int) + 1) (by omega), asrt_pos (by omega), asrt_pos (by unfold bigN; omega), show (1 : Int) - ((i % 2 : Nat) : Int) = ((1 - i % 2 : Nat) : Int) by omega]
    unfold gameroomref_RunOf_J7
    obtain ⟨m, rfl⟩ : ∃ m : Nat, c4 = (m : Int) := ⟨c4.toNat, by omega⟩
    rw [asrt_pos (by intro q; rw [decide_eq_true_eq] at q; omega), e, e2, w64_nat (k := i / 2) (by omega), w64_of (x := ((i / 2 : Nat) : Int) + 1) (by omega), show ((i / 2 : Nat) : Int) + 1 = ((i / 2 + 1 : Nat) : Int) from rfl, tmod_nat, Int.toNat_natCast]
    unfold mor at hb3 ⊢
    rw [Int.toNat_natCast]
    by_cases q : 0 < (m : Int) ∧ (i / 2 + 1) % m = 0
    · rw [if_pos (by rw [q.2]; simp; omega), if_pos q, asrt_pos (by omega), asrt_pos (by omega), asrt_pos (by rw [List.length_set]; omega), geti_set (by omega), if_pos rfl, List.set_set, w64_of (by unfold In36 at h5; omega), key8]
    · rw [if_neg (by simp only [Bool.and_eq_true, decide_eq_true_eq, beq_iff_eq]; intro z; exact q ⟨z.1, by omega⟩), if_neg q, Int.add_zero, key8]
  have key5 : gameroomref_RunOf_J5 c2 c3 c4 c5 used t (-1) i left i (tak c2 c3 u) = some (.next (if geti t ((i % 2 : Nat) : Int) < tak c2 c3 u then (t.set (i % 2) 0, ((i % 2 : Nat) : Int), (i : Int), left, (i : Int) + 1) else (t.set (i % 2) (geti t ((i % 2 : Nat) : Int) - tak c2 c3 u + bon c2 c3 u + mor c4 c5 (i / 2 + 1)), -1, (i : Int) + 1, left ++ [geti (t.set (i % 2) (geti t ((i % 2 : Nat) : Int) - tak c2 c3 u + bon c2 c3 u + mor c4 c5 (i / 2 + 1))) ((1 - i % 2 : Nat) : Int)], (i : Int) + 1))) := by
    unfold gameroomref_RunOf_J5
    rw [e, asrt_pos (by omega)]
    generalize tak c2 c3 u = T at *
    unfold In36 at hb1 hb2
    by_cases q : geti t ((i % 2 : Nat) : Int) < T
    · rw [if_pos (decide_eq_true q), if_pos q, asrt_pos (by omega), asrt_pos (by omega), Int.toNat_natCast]
      unfold gameroomref_RunOf_J3
      rw [w64_of (by omega)]
    · rw [if_neg (by simpa using q), if_neg q]
      unfold gameroomref_RunOf_J6
      rw [hU, e, asrt_pos (by omega), asrt_pos (by omega), asrt_pos (by omega), asrt_pos (by intros; omega), Int.toNat_natCast, w64_of (x := geti t ((i % 2 : Nat) : Int) - T) (by omega), List.length_set, List.set_set, List.set_set, geti_set (by omega), if_pos rfl]
      unfold bon at hb2 ⊢
      by_cases q1 : c2 = 1
      · rw [if_pos q1] at hb2 ⊢
        rw [if_pos (by simp [q1]), asrt_pos (by omega), asrt_pos (by omega), asrt_pos (by omega), w64_of (by omega), key7 _ (by omega) (by omega)]
      · rw [if_neg q1] at hb2 ⊢
        by_cases q2 : c2 = 2
        · rw [if_pos q2] at hb2 ⊢
          by_cases q3 : c3 ≤ u
          · rw [if_pos q3] at hb2 ⊢
            rw [if_pos (by simp [q2, q3]), asrt_pos (by omega), asrt_pos (by omega), asrt_pos (by omega), w64_of (by omega), key7 _ (by omega) (by omega)]
          · rw [if_neg q3] at hb2 ⊢
            rw [if_neg (by simp [q2, q3]), if_pos (by simpa using q2), asrt_pos (by omega), asrt_pos (by omega), asrt_pos (by omega), asrt_pos (by omega), w64_of (by omega), key7 _ (by omega) (by omega)]
        · rw [if_neg q2] at hb2 ⊢
          rw [if_neg (by simp [q1, q2]), if_neg (by simpa using q2), key7 _ (by omega) (by omega), Int.add_zero]
  unfold gameroomref_RunOf_J4
  rw [asrt_pos (by omega), hU]
  by_cases q : c2 = 3
  · rw [if_pos (by simpa using q), w64_of (by unfold In36 at *; omega)]
    unfold tak at key5 ⊢
    rw [if_pos q] at key5 ⊢
    by_cases q2 : u - c3 < 0
    · rw [if_pos q2] at key5 ⊢
      rw [if_pos (decide_eq_true q2)]; exact key5
    · rw [if_neg q2] at key5 ⊢
      rw [if_neg (by simpa using q2)]; exact key5
  · rw [if_neg (by simpa using q)]
    have em : u = tak c2 c3 u := by unfold tak; rw [if_neg q]
    rw [← em] at key5 ⊢; exact key5

/-- How it stands ahead of move i. -/
structure Ok (t mk left : List Int) (i : Nat) : Prop where
  tl : t.length = 2
  ml : mk.length = 2
  b0 : 0 ≤ geti t ((0 : Nat) : Int) ∧ geti t ((0 : Nat) : Int) ≤ top i
  b1 : 0 ≤ geti t ((1 : Nat) : Int) ∧ geti t ((1 : Nat) : Int) ≤ top i
  m0 : geti mk ((0 : Nat) : Int) = (((i + 1) / 2 : Nat) : Int)
  m1 : geti mk ((1 : Nat) : Int) = ((i / 2 : Nat) : Int)
  ll : left.length = i + 1

/-- Both ways of the program, and the document. -/
def Same (c1 c2 c3 c4 c5 : Int) (used t mk left : List Int) (f : Int) (n i : Int) : Prop :=
  (∃ d1 d2 d3 d4 l4 x1 x2, (loop (clock_device_runs_2_L1 c1 c2 c3 c4 c5 used) (t, f, n, mk, i) = some x1 ∧ clock_device_runs_2_K1 x1 = some (9, d1, d2, d3, d4)) ∧ (loop (clock_device_runs_4_L1 c1 c2 c3 c4 c5 used) (t, f, n, mk, left, i) = some x2 ∧ clock_device_runs_4_K1 x2 = some (9, d1, d2, d3, d4, l4)) ∧ loop (gameroomref_RunOf_L1 c2 c3 c4 c5 used) (t, f, n, left, i) = some (.ret (List.replicate 2 (0 : Int), 0, 0, [], 9))) ∨
  (∃ d1 d2 d3 d4 l4 x1 x2, (loop (clock_device_runs_2_L1 c1 c2 c3 c4 c5 used) (t, f, n, mk, i) = some x1 ∧ clock_device_runs_2_K1 x1 = some (0, d1, d2, d3, d4)) ∧ (loop (clock_device_runs_4_L1 c1 c2 c3 c4 c5 used) (t, f, n, mk, left, i) = some x2 ∧ clock_device_runs_4_K1 x2 = some (0, d1, d2, d3, d4, l4)) ∧ loop (gameroomref_RunOf_L1 c2 c3 c4 c5 used) (t, f, n, left, i) = some (.go (d1, d2, d3, l4)) ∧ l4.length ≤ 1000)

omit h3 h5 h4 in
theorem same_next {used t mk left t' mk' left' : List Int} {f n i f' n' i' : Int} (e1 : clock_device_runs_2_L1 c1 c2 c3 c4 c5 used (t, f, n, mk, i) = some (.next (t', f', n', mk', i'))) (e2 : clock_device_runs_4_L1 c1 c2 c3 c4 c5 used (t, f, n, mk, left, i) = some (.next (t', f', n', mk', left', i'))) (e3 : gameroomref_RunOf_L1 c2 c3 c4 c5 used (t, f, n, left, i) = some (.next (t', f', n', left', i')))
    (h : Same c1 c2 c3 c4 c5 used t' mk' left' f' n' i') : Same c1 c2 c3 c4 c5 used t mk left f n i := by
  rcases h with ⟨d1, d2, d3, d4, l4, x1, x2, ⟨a1, a2⟩, ⟨b1, b2⟩, g⟩ | ⟨d1, d2, d3, d4, l4, x1, x2, ⟨a1, a2⟩, ⟨b1, b2⟩, g, gl⟩
  · exact .inl ⟨d1, d2, d3, d4, l4, x1, x2, ⟨loop_next' e1 a1, a2⟩, ⟨loop_next' e2 b1, b2⟩, loop_next' e3 g⟩
  · exact .inr ⟨d1, d2, d3, d4, l4, x1, x2, ⟨loop_next' e1 a1, a2⟩, ⟨loop_next' e2 b1, b2⟩, loop_next' e3 g, gl⟩

omit h3 h5 h4 in
/-- At the end. -/
theorem same_end {used t mk left : List Int} {f n : Int} (hll : left.length ≤ 1000) : Same c1 c2 c3 c4 c5 used t mk left f n (used.length : Int) :=
  .inr ⟨t, f, n, mk, left, .go (t, f, n, mk), .go (t, f, n, mk, left), ⟨loop_done (by simp only [clock_device_runs_2_L1]; rw [if_neg (by simp)]), rfl⟩, ⟨loop_done (by simp only [clock_device_runs_4_L1]; rw [if_neg (by simp)]), rfl⟩, loop_done (by simp only [gameroomref_RunOf_L1]; rw [if_neg (by simp)]), hll⟩
omit h3 h5 h4 in
/-- After the flag has fallen. -/
theorem same_over {used t mk left : List Int} {f n : Int} {i : Nat} (hi : i < used.length) (hf : 0 ≤ f) : Same c1 c2 c3 c4 c5 used t mk left f n (i : Int) := by
  refine .inl ⟨t, f, n, mk, left, .ret (9, t, f, n, mk), .ret (9, t, f, n, mk, left), ⟨loop_done ?_, rfl⟩, ⟨loop_done ?_, rfl⟩, loop_done ?_⟩
  · simp only [clock_device_runs_2_L1, clock_device_runs_2_J2]
    rw [if_pos (decide_eq_true (by omega)), asrt_pos (by omega), if_pos (decide_eq_true hf)]
  · simp only [clock_device_runs_4_L1, clock_device_runs_4_J2]
    rw [if_pos (decide_eq_true (by omega)), asrt_pos (by omega), if_pos (decide_eq_true hf)]
  · simp only [gameroomref_RunOf_L1, gameroomref_RunOf_J2]
    rw [if_pos (decide_eq_true (by omega)), if_pos (decide_eq_true hf)]

theorem runs_all {used : List Int} (hl : used.length ≤ 200) (hu : ∀ i : Nat, i < used.length → In36 (geti used (i : Int))) : ∀ (m k : Nat) (t mk left : List Int), k + m = used.length → Ok t mk left k → Same c1 c2 c3 c4 c5 used t mk left (-1) k k := by
  intro m
  induction m with
  | zero =>
    intro k t mk left hk h
    obtain rfl : k = used.length := by omega
    exact same_end (by rw [h.ll]; omega)
  | succ m ih =>
    intro k t mk left hk h
    have hw : k % 2 = 0 ∨ k % 2 = 1 := by omega
    have hb : 0 ≤ geti t ((k % 2 : Nat) : Int) ∧ geti t ((k % 2 : Nat) : Int) ≤ top k := by
      rcases hw with e | e <;> rw [e]
      · exact h.b0
      · exact h.b1
    have hk2 : geti mk ((k % 2 : Nat) : Int) = ((k / 2 : Nat) : Int) := by
      rcases hw with e | e <;> rw [e]
      · rw [h.m0]; omega
      · rw [h.m1]
    have hu1 := hu k (by omega)
    have hp := press_p (c1 := c1) (c2 := c2) h3 h5 h4 (by omega) hu1 h.tl h.ml hb hk2
    have hr := step_r (c2 := c2) (left := left) h3 h5 h4 (by omega) (by omega) hl hu1 h.tl hb (by rw [h.ll]; omega)
    have hb1 := tak_bd (c2 := c2) h3 hu1
    have hb2 := bon_bd (c2 := c2) h3 hu1
    have hb3 := mor_bd (c4 := c4) h5 (k / 2 + 1)
    have ha : aft c2 c3 c4 c5 t k (geti used (k : Int)) = geti t ((k % 2 : Nat) : Int) - tak c2 c3 (geti used (k : Int)) + bon c2 c3 (geti used (k : Int)) + mor c4 c5 (k / 2 + 1) := rfl
    generalize aft c2 c3 c4 c5 t k (geti used (k : Int)) = V at *
    generalize tak c2 c3 (geti used (k : Int)) = T at *
    generalize bon c2 c3 (geti used (k : Int)) = Bo at *
    generalize mor c4 c5 (k / 2 + 1) = Mo at *
    have s2 : clock_device_runs_2_L1 c1 c2 c3 c4 c5 used (t, -1, (k : Int), mk, (k : Int)) = clock_device_runs_2_J4 c1 c2 c3 c4 c5 used t (-1) k mk k := by
      simp only [clock_device_runs_2_L1, clock_device_runs_2_J2]
      rw [if_pos (decide_eq_true (by omega)), asrt_pos (by omega), if_neg (by decide)]
    have s4 : clock_device_runs_4_L1 c1 c2 c3 c4 c5 used (t, -1, (k : Int), mk, left, (k : Int)) = clock_device_runs_4_J4 c1 c2 c3 c4 c5 used t (-1) k mk left k := by
      simp only [clock_device_runs_4_L1, clock_device_runs_4_J2]
      rw [if_pos (decide_eq_true (by omega)), asrt_pos (by omega), if_neg (by decide)]
    unfold clock_device_runs_2_J4 clock_device_runs_2_J3 at s2
    unfold clock_device_runs_4_J4 clock_device_runs_4_J3 at s4
    rw [hp, Option.bind_some, w64_of (by omega)] at s2 s4
    by_cases q : geti t ((k % 2 : Nat) : Int) < T
    · rw [if_pos q] at s2 s4 hr
      rw [if_neg (by simp)] at s2 s4
      refine same_next s2 s4 hr ?_
      by_cases q2 : k + 1 < used.length
      · exact same_over q2 (Int.natCast_nonneg (k % 2))
      · have e : (k : Int) + 1 = (used.length : Int) := by omega
        rw [e]; exact same_end (by rw [h.ll]; omega)
    · rw [if_neg q] at s2 s4 hr
      rw [if_pos rfl] at s2 s4
      have t2 : (t.set (k % 2) V).length = 2 := by rw [List.length_set]; exact h.tl
      have e11 : bAnd ((k : Int) + 1) 1 = ((1 - k % 2 : Nat) : Int) := by
        rw [show (k : Int) + 1 = ((k + 1 : Nat) : Int) from rfl, band1 _ (by omega)]; omega
      have hleft : clock_Left_1_2_m left c1 c2 c3 c4 c5 (t.set (k % 2) V) (-1) ((k : Int) + 1) (mk.set (k % 2) ((k / 2 + 1 : Nat) : Int)) = some (left ++ [geti (t.set (k % 2) V) ((1 - k % 2 : Nat) : Int)]) := by
        unfold clock_Left_1_2_m clock_Left_1_2_J1
        rw [e11, asrt_pos (by omega), asrt_pos (by rw [h.ll]; unfold bigN; omega)]
      dsimp only at s2 s4
      rw [hleft, Option.bind_some] at s4
      have e1 : clock_Run_1_m = some () := rfl
      rw [e1, Option.bind_some] at s2
      refine same_next s2 s4 hr (ih (k + 1) _ _ _ (by omega) ?_)
      have h36 : (36000000 : Int) + 72000000 ≤ 108000000 := by decide
      have etop : top (k + 1) = top k + 72000000 := by unfold top; omega
      unfold In36 at hb1 hb2 hb3
      have hb0 := h.b0
      have hb1' := h.b1
      have hm0 := h.m0
      have hm1 := h.m1
      refine ⟨t2, by rw [List.length_set]; exact h.ml, ?_, ?_, ?_, ?_, by simp [h.ll]⟩
      · rw [geti_set (by rw [h.tl]; omega)]
        split <;> omega
      · rw [geti_set (by rw [h.tl]; omega)]
        split <;> omega
      · rw [geti_set (by rw [h.ml]; omega)]
        split <;> omega
      · rw [geti_set (by rw [h.ml]; omega)]
        split <;> omega
end

theorem ints_p {l : List Int} (hl : l.length ≤ 17592186043904) : gameroomlaw_ints_m l = some l := by
  unfold gameroomlaw_ints_m
  rw [asrt_pos (by unfold bigN; omega)]; rfl

theorem same_p (c : List Int) (hl : c.length ≤ 17592186043904) : gameroomlaw_sameInts_m c c = some true := by
  unfold gameroomlaw_sameInts_m gameroomlaw_sameInts_J1
  rw [if_neg (by simp)]
  have h := loop_from (step := gameroomlaw_sameInts_L1 c c) (s0 := 0) (r := Fl.go ()) (fun k => ((k : Nat) : Int)) c.length rfl (by
    intro k hk
    simp only [gameroomlaw_sameInts_L1, gameroomlaw_sameInts_J3, gameroomlaw_sameInts_J4]
    rw [if_pos (decide_eq_true (by omega)), asrt_pos (by omega), asrt_pos (by omega), if_neg (by simp), w64_of (by omega)]; rfl) (by
    simp only [gameroomlaw_sameInts_L1]; rw [if_neg (by simp)])
  rw [h]; rfl

theorem errC_0 {c1 c2 c3 c4 c5 : Int} (h : errC c1 c2 c3 c4 c5 = 0) : In36 c1 ∧ In36 c3 ∧ In36 c5 ∧ (0 ≤ c4 ∧ c4 ≤ 1000) ∧ (0 ≤ c2 ∧ c2 ≤ 3) := by
  unfold errC at h
  by_cases h1 : In36 c1 ∧ In36 c3 ∧ In36 c5 ∧ (0 ≤ c4 ∧ c4 ≤ 1000)
  · rw [if_pos h1] at h
    by_cases h2 : 0 ≤ c2 ∧ c2 ≤ 3
    · exact ⟨h1.1, h1.2.1, h1.2.2.1, h1.2.2.2, h2⟩
    · rw [if_neg h2] at h; omega
  · rw [if_neg h1] at h; omega

theorem errU_0 {l : List Int} (h : errU l = 0) : l.length ≤ 200 ∧ ∀ i : Nat, i < l.length → In36 (geti l (i : Int)) := by
  unfold errU at h
  by_cases h1 : 200 < l.length
  · rw [if_pos h1] at h; omega
  · rw [if_neg h1] at h
    by_cases h2 : l.any strB = true
    · rw [if_pos h2] at h; omega
    · refine ⟨by omega, fun i hi => ?_⟩
      have hm : geti l (i : Int) ∈ l := by
        rw [geti_nat, List.getD_eq_getElem?_getD, List.getElem?_eq_getElem hi]; exact List.getElem_mem hi
      have : ¬ strB (geti l (i : Int)) = true := fun q => h2 (List.any_eq_true.2 ⟨_, hm, q⟩)
      unfold strB at this
      unfold In36
      simp only [Bool.or_eq_true, decide_eq_true_eq] at this
      omega

/-- What the law asks once the pace is right. -/
theorem rest_law {c1 c2 c3 c4 c5 : Int} {used : List Int} (hl : used.length ≤ 17592186043904) : ∃ x1 x2 x3 e l f, clock_Run_m c1 c2 c3 c4 c5 used = some (x1, x2, x3, e) ∧ clock_Left_m c1 c2 c3 c4 c5 used = some (l, f) ∧ gameroomlaw_ClockRuns_J4 c1 c2 c3 c4 c5 used x1 x2 x3 e l f = some true := by
  have eN := new_p (c1 := c1) (c2 := c2) (c3 := c3) (c4 := c4) (c5 := c5) hl
  have eU := used_r (c1 := c1) (c2 := c2) (c3 := c3) (c4 := c4) (c5 := c5) hl
  by_cases hC : errC c1 c2 c3 c4 c5 = 0
  · rw [if_neg (fun h => h hC)] at eN eU
    by_cases hU : errU used = 0
    · rw [if_neg (fun h => h hU)] at eN
      rw [hU] at eU
      obtain ⟨i1, i3, i5, i4, i2⟩ := errC_0 hC
      obtain ⟨hl2, hu⟩ := errU_0 hU
      have hs := runs_all (c1 := c1) (c2 := c2) i3 i5 i4 hl2 hu used.length 0 [c1, c1] (List.replicate 2 (0 : Int)) [c1] (by omega) (by
        unfold In36 at i1
        exact ⟨rfl, rfl, by show 0 ≤ c1 ∧ c1 ≤ top 0; unfold top; omega, by show 0 ≤ c1 ∧ c1 ≤ top 0; unfold top; omega, rfl, rfl, rfl⟩)
      have hl0 : clock_Left_1_2_m [] c1 c2 c3 c4 c5 [c1, c1] (-1) 0 (List.replicate 2 (0 : Int)) = some [c1] := by
        unfold clock_Left_1_2_m clock_Left_1_2_J1
        have e : bAnd 0 1 = 0 := band1 0 (by decide)
        rw [e, asrt_pos (by decide), asrt_pos (by decide)]; rfl
      rcases hs with ⟨d1, d2, d3, d4, l4, x1, x2, ⟨a1, a2⟩, ⟨b1, b2⟩, g⟩ | ⟨d1, d2, d3, d4, l4, x1, x2, ⟨a1, a2⟩, ⟨b1, b2⟩, g, gl⟩
      · refine ⟨List.replicate 2 (0 : Int), 0, 0, 9, [], 9, ?_, ?_, ?_⟩
        · unfold clock_Run_m
          rw [eN, Option.bind_some]
          simp only [Fl.elim2]
          unfold clock_Run_J3 clock_device_runs_2_m
          dsimp only
          rw [show clock_Run_1_m = some () from rfl, Option.bind_some, show loop (clock_device_runs_2_L1 c1 c2 c3 c4 c5 used) ([c1, c1], -1, 0, List.replicate 2 (0 : Int), 0) = some x1 from a1, Option.bind_some, a2, Option.bind_some]
          rfl
        · unfold clock_Left_m
          rw [eN, Option.bind_some]
          simp only [Fl.elim2]
          unfold clock_Left_J3 clock_device_runs_4_m
          dsimp only
          rw [hl0, Option.bind_some, show loop (clock_device_runs_4_L1 c1 c2 c3 c4 c5 used) ([c1, c1], -1, 0, List.replicate 2 (0 : Int), [c1], 0) = some x2 from b1, Option.bind_some, b2, Option.bind_some]
          rfl
        · unfold gameroomlaw_ClockRuns_J4
          rw [eU, Option.bind_some, if_neg (by decide)]
          unfold gameroomlaw_ClockRuns_J5 gameroomref_RunOf_m
          rw [show loop (gameroomref_RunOf_L1 c2 c3 c4 c5 used) ([c1, c1], -1, 0, [c1], 0) = _ from g, Option.bind_some]
          simp only [gameroomref_RunOf_K1]
          rw [Option.bind_some, if_pos (by simp), same_p [] (by simp), Option.bind_some]
          simp
      · refine ⟨d1, d2, d3, 0, l4, 0, ?_, ?_, ?_⟩
        · unfold clock_Run_m
          rw [eN, Option.bind_some]
          simp only [Fl.elim2]
          unfold clock_Run_J3 clock_device_runs_2_m
          dsimp only
          rw [show clock_Run_1_m = some () from rfl, Option.bind_some, show loop (clock_device_runs_2_L1 c1 c2 c3 c4 c5 used) ([c1, c1], -1, 0, List.replicate 2 (0 : Int), 0) = some x1 from a1, Option.bind_some, a2, Option.bind_some, if_neg (by simp)]
          rfl
        · unfold clock_Left_m
          rw [eN, Option.bind_some]
          simp only [Fl.elim2]
          unfold clock_Left_J3 clock_device_runs_4_m
          dsimp only
          rw [hl0, Option.bind_some, show loop (clock_device_runs_4_L1 c1 c2 c3 c4 c5 used) ([c1, c1], -1, 0, List.replicate 2 (0 : Int), [c1], 0) = some x2 from b1, Option.bind_some, b2, Option.bind_some, if_neg (by simp)]
          rfl
        · unfold gameroomlaw_ClockRuns_J4
          rw [eU, Option.bind_some, if_neg (by decide)]
          unfold gameroomlaw_ClockRuns_J5 gameroomref_RunOf_m
          rw [show loop (gameroomref_RunOf_L1 c2 c3 c4 c5 used) ([c1, c1], -1, 0, [c1], 0) = _ from g, Option.bind_some]
          simp only [gameroomref_RunOf_K1, gameroomref_RunOf_J1]
          rw [Option.bind_some, if_pos (by simp), same_p l4 (by omega), Option.bind_some]
          simp
    · rw [if_pos hU] at eN
      refine ⟨List.replicate 2 (0 : Int), 0, 0, errU used, [], errU used, ?_, ?_, ?_⟩
      · unfold clock_Run_m
        rw [eN, Option.bind_some]
        simp only [Fl.elim2]; rw [if_pos (by simpa using hU)]
      · unfold clock_Left_m
        rw [eN, Option.bind_some]
        simp only [Fl.elim2]; rw [if_pos (by simpa using hU)]
      · unfold gameroomlaw_ClockRuns_J4
        rw [eU, Option.bind_some, if_pos (by simpa using hU)]; simp
  · rw [if_pos hC] at eN eU
    refine ⟨List.replicate 2 (0 : Int), 0, 0, errC c1 c2 c3 c4 c5, [], errC c1 c2 c3 c4 c5, ?_, ?_, ?_⟩
    · unfold clock_Run_m
      rw [eN, Option.bind_some]
      simp only [Fl.elim2]; rw [if_pos (by simpa using hC)]
    · unfold clock_Left_m
      rw [eN, Option.bind_some]
      simp only [Fl.elim2]; rw [if_pos (by simpa using hC)]
    · unfold gameroomlaw_ClockRuns_J4
      rw [eU, Option.bind_some, if_pos (by simpa using hC)]; simp

theorem true_ClockRuns (c1 c2 c3 c4 c5 : Int) (used : List Int) (n : Int) (_h1 : inI c1) (_h2 : inI c2) (_h3 : inI c3) (_h4 : inI c4) (_h5 : inI c5) (hl : used.length ≤ 17592186043904) (_hy : ∀ y ∈ used, inI y) (_hn : inI n) : gameroomlaw_ClockRuns_m c1 c2 c3 c4 c5 used n = some true := by
  obtain ⟨x1, x2, x3, e, l, f, r1, r2, r3⟩ := rest_law (c1 := c1) (c2 := c2) (c3 := c3) (c4 := c4) (c5 := c5) hl
  unfold gameroomlaw_ClockRuns_m
  rw [ints_p hl, Option.bind_some, r1, Option.bind_some]
  unfold gameroomlaw_ClockRuns_J1
  rw [ints_p hl, Option.bind_some, r2, Option.bind_some]
  unfold gameroomlaw_ClockRuns_J2
  rw [control_r]
  by_cases hC : errC c1 c2 c3 c4 c5 = 0
  · obtain ⟨i1, i3, i5, i4, i2⟩ := errC_0 hC
    by_cases hn : 0 ≤ n ∧ n ≤ 200
    · obtain ⟨k, rfl⟩ : ∃ k : Nat, n = (k : Int) := ⟨n.toNat, by omega⟩
      rw [pace_p hC i1 i3 i5 i2.1 (by omega), Option.bind_some, Option.bind_some, hC, if_neg (by simp; omega)]
      unfold gameroomlaw_ClockRuns_J3
      rw [if_neg (by decide), if_pos (by simp), pace_r i1 i3 i5 i4 (by omega), Option.bind_some, if_neg (by simp)]
      exact r3
    · have e1 : clock_Pace_m c1 c2 c3 c4 c5 n = some (0, 11) := by
        unfold clock_Pace_m clock_Pace_J1
        rw [check_p, hC, Option.bind_some, if_neg (by simp), if_pos (by simp; omega)]
      rw [e1, Option.bind_some, Option.bind_some, hC, if_pos (by simp; omega)]
      unfold gameroomlaw_ClockRuns_J3
      rw [if_pos (by decide), if_neg (by decide)]
      exact r3
  · have e1 : clock_Pace_m c1 c2 c3 c4 c5 n = some (0, errC c1 c2 c3 c4 c5) := by
      unfold clock_Pace_m
      rw [check_p, Option.bind_some, if_pos (by simpa using hC)]
    rw [e1, Option.bind_some, Option.bind_some, if_neg (by simp [hC])]
    unfold gameroomlaw_ClockRuns_J3
    rw [if_pos (by simpa using hC), if_neg (by simp)]
    exact r3
end Go.Proofs.Ytbmhcapeikebgaa
