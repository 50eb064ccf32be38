/-
  PokerValues: a hand's value is the same on both sides.
-/
import Derived.Test.YtoickcchcjehdaaVPc
namespace Go.Proofs.Ytoickcchcjehdaa
open Go Go.GL

/-! ### Five one below the other -/
def allF (b : Int → Bool) (r : Int) : Bool := b ((r + 13) % 13) && b ((r - 1 + 13) % 13) && b ((r - 2 + 13) % 13) && b ((r - 3 + 13) % 13) && b ((r - 4 + 13) % 13)
def topF (b : Int → Bool) (n : Nat) : Int := (List.range n).foldl (fun (t : Int) (i : Nat) => if allF b ((i : Int) + 3) then (i : Int) + 3 else t) (-1)
theorem topF_succ (b : Int → Bool) (n : Nat) : topF b (n + 1) = if allF b ((n : Int) + 3) then (n : Int) + 3 else topF b n := by
  unfold topF
  rw [List.range_succ, List.foldl_append]
  rfl
theorem all_r (m : List Int) {r : Int} (h0 : 3 ≤ r) (h1 : r ≤ 12) : loop (gameroomref_HandValue_L5 m r) (true, 0) = some (allF (fun x => geti m x == 1) r) := by
  have key : ∀ (a : Bool) (k : Int), 0 ≤ k → k < 5 → gameroomref_HandValue_L5 m r (a, k) = some (.next ((a && (geti m ((r - k + 13) % 13) == 1)), k + 1)) := by
    intro a k hk0 hk1
    simp only [gameroomref_HandValue_L5]
    rw [if_pos (decide_eq_true (by omega))]
    unfold gameroomref_HandValue_J13 gameroomref_HandValue_J14
    have e : Int.tmod (w64 (w64 (r - k) + 13)) 13 = (r - k + 13) % 13 := by
      rw [w64_of (by omega : -9223372036854775808 ≤ r - k ∧ r - k ≤ 9223372036854775807), w64_of (by omega), Int.tmod_eq_emod_of_nonneg (by omega)]
    have e13 : (((Int.toNat 13) : Nat) : Int) = 13 := rfl
    rw [e, e13, asrt_pos (by intro; omega), w64_of (by omega)]
  refine loop_next' (key _ 0 (by omega) (by omega)) ?_
  refine loop_next' (key _ 1 (by omega) (by omega)) ?_
  refine loop_next' (key _ 2 (by omega) (by omega)) ?_
  refine loop_next' (key _ 3 (by omega) (by omega)) ?_
  refine loop_next' (key _ 4 (by omega) (by omega)) ?_
  refine loop_done ?_
  simp only [gameroomref_HandValue_L5]
  rw [if_neg (by simp)]
  unfold allF
  simp

theorem top_r (m : List Int) : loop (gameroomref_HandValue_L4 m) ((-1), 3) = some (topF (fun x => geti m x == 1) 10) := by
  refine loop_from (f := fun i => (topF (fun x => geti m x == 1) i, (i : Int) + 3)) 10 (by rfl) (fun i hi => ?_) ?_
  · simp only [gameroomref_HandValue_L4]
    rw [if_pos (decide_eq_true (by omega))]
    unfold gameroomref_HandValue_J10
    rw [all_r m (by omega) (by omega), Option.bind_some]
    simp only [gameroomref_HandValue_K5]
    unfold gameroomref_HandValue_J12 gameroomref_HandValue_J11
    rw [topF_succ, w64_of (by omega)]
    have e5 : (i : Int) + 3 + 1 = ((i + 1 : Nat) : Int) + 3 := by omega
    rw [e5]
    by_cases h : allF (fun x => geti m x == 1) ((i : Int) + 3) = true
    · rw [if_pos h, if_pos h]
    · rw [if_neg h, if_neg h]
  · simp only [gameroomref_HandValue_L4]
    rw [if_neg (by simp)]

/-! ### All sets of ranks, reckoned -/
def allBs : Nat → List (List Bool)
  | 0 => [[]]
  | n + 1 => (allBs n).flatMap fun l => [true :: l, false :: l]
theorem allBs_mem : ∀ (n : Nat) (l : List Bool), l.length = n → l ∈ allBs n
  | 0, l, h => by
    have : l = [] := List.eq_nil_of_length_eq_zero h
    subst this
    simp [allBs]
  | n + 1, l, h => by
    cases l with
    | nil => simp at h
    | cons b l =>
      unfold allBs
      rw [List.mem_flatMap]
      refine ⟨l, allBs_mem n l (by simpa using h), ?_⟩
      cases b <;> simp
def topP (f : List Int) : Int := if geti f 0 == 12 && geti f 1 == 3 then 3 else if geti f 0 - geti f 4 == 4 then geti f 0 else -1
def chkB (bs : List Bool) : Bool :=
  let f := dn.filter (getb bs)
  if f.length < 5 then topF (getb bs) 10 == -1 else if f.length == 5 then topF (getb bs) 10 == topP f else true
set_option maxRecDepth 100000 in
theorem chkB_all : (allBs 13).all chkB = true := by decide +kernel

theorem topF_congr {b c : Int → Bool} (h : ∀ x : Int, 0 ≤ x → x ≤ 12 → b x = c x) : ∀ n : Nat, n ≤ 10 → topF b n = topF c n := by
  intro n
  induction n with
  | zero => intro _; rfl
  | succ n ih =>
    intro hn
    rw [topF_succ, topF_succ, ih (by omega)]
    have e : allF b ((n : Int) + 3) = allF c ((n : Int) + 3) := by
      unfold allF
      rw [h _ (by omega) (by omega), h _ (by omega) (by omega), h _ (by omega) (by omega), h _ (by omega) (by omega), h _ (by omega) (by omega)]
    rw [e]

theorem top_one (m : List Int) : (let f := dn.filter (fun r => geti m r == 1); (f.length < 5 → topF (fun x => geti m x == 1) 10 = -1) ∧ (f.length = 5 → topF (fun x => geti m x == 1) 10 = topP f)) := by
  have hmem := allBs_mem 13 ((List.range 13).map fun (r : Nat) => geti m (r : Int) == 1) (by simp)
  have h := List.all_eq_true.1 chkB_all _ hmem
  generalize hbs : (List.range 13).map (fun (r : Nat) => geti m (r : Int) == 1) = bs at h
  have hb : ∀ x : Int, 0 ≤ x → x ≤ 12 → getb bs x = (geti m x == 1) := by
    intro x h0 h1
    rw [← hbs]
    unfold getb
    obtain ⟨k, rfl⟩ := Int.eq_ofNat_of_zero_le h0
    rw [Int.toNat_natCast, List.getD_eq_getElem?_getD, List.getElem?_map, List.getElem?_range (by omega)]
    rfl
  have e1 : topF (getb bs) 10 = topF (fun x => geti m x == 1) 10 := topF_congr hb 10 (Nat.le_refl _)
  have e2 : dn.filter (getb bs) = dn.filter (fun r => geti m r == 1) := List.filter_congr fun x hx => hb x (dn_mem.1 hx).1 (dn_mem.1 hx).2
  unfold chkB at h
  rw [e1, e2] at h
  simp only at h ⊢
  constructor
  · intro h5
    rw [if_pos h5] at h
    simpa using h
  · intro h5
    rw [if_neg (by omega), if_pos (by simpa using h5)] at h
    simpa using h

/-! ### The value of a class and its ranks -/
def valOf (c : Int) (s : List Int) : Int := ((((c * 13 + geti s 0) * 13 + geti s 1) * 13 + geti s 2) * 13 + geti s 3) * 13 + geti s 4

theorem val_p {s : List Int} (hs : ∀ k : Nat, k < 5 → 0 ≤ geti s (k : Int) ∧ geti s (k : Int) ≤ 12) {c : Int} (hc : 0 ≤ c ∧ c ≤ 8) : poker_value_J8 s c = some (valOf c s) := by
  have key : ∀ (v : Int) (k : Nat), k < 5 → 0 ≤ v → v ≤ 100000000 → poker_value_L3 s (v, (k : Int)) = some (.next (v * 13 + geti s (k : Int), ((k + 1 : Nat) : Int))) := by
    intro v k hk h0 h1
    simp only [poker_value_L3]
    rw [if_pos (decide_eq_true (by omega))]
    unfold poker_value_J10 poker_value_J11
    have hg := hs k hk
    by_cases h : (k : Int) < (s.length : Int)
    · rw [if_pos (decide_eq_true h), asrt_pos (by omega), w64_of (by omega : -9223372036854775808 ≤ v * 13 ∧ v * 13 ≤ 9223372036854775807), w64_of (by omega), w64_of (by omega)]
      rfl
    · have e : geti s (k : Int) = 0 := by
        unfold geti
        rw [Int.toNat_natCast, List.getD_eq_getElem?_getD, List.getElem?_eq_none (by omega)]
        rfl
      rw [if_neg (by simpa using h), e, w64_of (by omega), w64_of (by omega), Int.add_zero]
      rfl
  have g0 := hs 0 (by omega)
  have g1 := hs 1 (by omega)
  have g2 := hs 2 (by omega)
  have g3 := hs 3 (by omega)
  have e0 : ((0 : Nat) : Int) = 0 := rfl
  have e1 : ((1 : Nat) : Int) = 1 := rfl
  have e2 : ((2 : Nat) : Int) = 2 := rfl
  have e3 : ((3 : Nat) : Int) = 3 := rfl
  rw [e0] at g0
  rw [e1] at g1
  rw [e2] at g2
  rw [e3] at g3
  unfold poker_value_J8
  have hl : loop (poker_value_L3 s) (c, 0) = some (valOf c s) := by
    refine loop_next' (key c 0 (by omega) (by omega) (by omega)) ?_
    refine loop_next' (key _ 1 (by omega) (by rw [e0]; omega) (by rw [e0]; omega)) ?_
    refine loop_next' (key _ 2 (by omega) (by rw [e0, e1]; omega) (by rw [e0, e1]; omega)) ?_
    refine loop_next' (key _ 3 (by omega) (by rw [e0, e1, e2]; omega) (by rw [e0, e1, e2]; omega)) ?_
    refine loop_next' (key _ 4 (by omega) (by rw [e0, e1, e2, e3]; omega) (by rw [e0, e1, e2, e3]; omega)) ?_
    refine loop_done ?_
    simp only [poker_value_L3]
    rw [if_neg (by simp)]
    rfl
  rw [hl]; rfl

theorem val_r {s : List Int} (hl : s.length ≤ 5) (hs : ∀ k : Nat, k < 5 → 0 ≤ geti s (k : Int) ∧ geti s (k : Int) ≤ 12) {c : Int} (hc : 0 ≤ c ∧ c ≤ 8) : gameroomref_HandValue_J16 c s = some (valOf c s) := by
  unfold gameroomref_HandValue_J16
  have hp : loop gameroomref_HandValue_L6 s = some (s ++ List.replicate (5 - s.length) 0) := by
    refine loop_from (f := fun i => s ++ List.replicate i 0) (5 - s.length) (by simp) (fun i hi => ?_) ?_
    · simp only [gameroomref_HandValue_L6]
      have e : (s ++ List.replicate i (0 : Int)).length = s.length + i := by simp
      rw [if_pos (decide_eq_true (by rw [e]; omega))]
      unfold gameroomref_HandValue_J18
      rw [asrt_pos (by rw [e]; unfold bigN; omega), List.append_assoc, List.replicate_succ']
    · simp only [gameroomref_HandValue_L6]
      have e : (s ++ List.replicate (5 - s.length) (0 : Int)).length = 5 := by simp; omega
      rw [if_neg (by rw [e]; simp)]
  rw [hp, Option.bind_some]
  simp only [gameroomref_HandValue_K6]
  unfold gameroomref_HandValue_J17
  generalize ht : s ++ List.replicate (5 - s.length) (0 : Int) = t
  have htl : t.length = 5 := by rw [← ht]; simp; omega
  have hg : ∀ k : Nat, geti t (k : Int) = geti s (k : Int) := fun k => by
    rw [← ht]
    unfold geti
    rw [Int.toNat_natCast, List.getD_eq_getElem?_getD, List.getD_eq_getElem?_getD]
    by_cases h : k < s.length
    · rw [List.getElem?_append_left h]
    · rw [List.getElem?_append_right (by omega), List.getElem?_eq_none (l := s) (by omega), List.getElem?_replicate]
      split <;> rfl
  have key : ∀ (v : Int) (k : Nat), k < 5 → 0 ≤ v → v ≤ 100000000 → gameroomref_HandValue_L7 t (v, (k : Int)) = some (.next (v * 13 + geti s (k : Int), ((k + 1 : Nat) : Int))) := by
    intro v k hk h0 h1
    simp only [gameroomref_HandValue_L7]
    rw [if_pos (decide_eq_true (by omega))]
    unfold gameroomref_HandValue_J20 gameroomref_HandValue_J21
    have hgs := hs k hk
    rw [asrt_pos (by omega), hg, w64_of (by omega : -9223372036854775808 ≤ 13 * v ∧ 13 * v ≤ 9223372036854775807), w64_of (by omega), w64_of (by omega), Int.mul_comm 13 v]
    rfl
  have g0 := hs 0 (by omega)
  have g1 := hs 1 (by omega)
  have g2 := hs 2 (by omega)
  have g3 := hs 3 (by omega)
  have e0 : ((0 : Nat) : Int) = 0 := rfl
  have e1 : ((1 : Nat) : Int) = 1 := rfl
  have e2 : ((2 : Nat) : Int) = 2 := rfl
  have e3 : ((3 : Nat) : Int) = 3 := rfl
  rw [e0] at g0
  rw [e1] at g1
  rw [e2] at g2
  rw [e3] at g3
  have hl : loop (gameroomref_HandValue_L7 t) (c, 0) = some (valOf c s) := by
    refine loop_next' (key c 0 (by omega) (by omega) (by omega)) ?_
    refine loop_next' (key _ 1 (by omega) (by rw [e0]; omega) (by rw [e0]; omega)) ?_
    refine loop_next' (key _ 2 (by omega) (by rw [e0, e1]; omega) (by rw [e0, e1]; omega)) ?_
    refine loop_next' (key _ 3 (by omega) (by rw [e0, e1, e2]; omega) (by rw [e0, e1, e2]; omega)) ?_
    refine loop_next' (key _ 4 (by omega) (by rw [e0, e1, e2, e3]; omega) (by rw [e0, e1, e2, e3]; omega)) ?_
    refine loop_done ?_
    simp only [gameroomref_HandValue_L7]
    rw [if_neg (by simp)]
    rfl
  rw [hl]; rfl
end Go.Proofs.Ytoickcchcjehdaa
