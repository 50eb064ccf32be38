import Derived.Test.YtfmmlmiakkjaiaaNMC
import Derived.Test.YtfmmlmiakkjaiaaLibK
import Derived.Test.YtfmmlmiakkjaiaaLibY
import Derived.Test.YtfmmlmiakkjaiaaLibE
import Derived.Test.YtfmmlmiakkjaiaaLibT
namespace Go.Proofs.Ytfmmlmiakkjaiaa
open Go Go.GL
def mvO (i : Nat) (sx sy : Int) : Option Nat :=
 if 0 ≤ (i : Int) % 8 + sx ∧ (i : Int) % 8 + sx ≤ 7 ∧ 0 ≤ (i : Int) / 8 + sy ∧ (i : Int) / 8 + sy ≤ 7 then some (((i : Int) / 8 + sy) * 8 + ((i : Int) % 8 + sx)).toNat else none
def encO : Option Nat → Int
 | none => -1
 | some j => (j : Int)
theorem encN : encO none = -1 := rfl
theorem encS (q : Nat) : encO (some q) = (q : Int) := rfl
def ray : Nat → Nat → Int → Int → List Nat
 | 0, _, _, _ => []
 | n + 1, i, sx, sy => match mvO i sx sy with
  | none => []
  | some j => j :: ray n j sx sy
theorem ray_none {n i : Nat} {sx sy : Int} (h : mvO i sx sy = none) : ray (n + 1) i sx sy = [] := by unfold ray; rw [h]
theorem ray_some {n i j : Nat} {sx sy : Int} (h : mvO i sx sy = some j) : ray (n + 1) i sx sy = j :: ray n j sx sy := by rw [ray]; rw [h]
def dirs : List (Int × Int) := [(1, 1), (1, -1), (-1, 1), (-1, -1), (1, 0), (-1, 0), (0, 1), (0, -1)]
def hops : List (Int × Int) := [(1, 2), (2, 1), (2, -1), (1, -2), (-1, -2), (-2, -1), (-2, 1), (-1, 2)]
def stepsL (k : Int) : List (Int × Int) :=
 if k = 2 then hops else if k = 3 then [(1, 1), (1, -1), (-1, 1), (-1, -1)] else if k = 4 then [(1, 0), (-1, 0), (0, 1), (0, -1)] else dirs
theorem steps_p (k : Int) : board_steps_m k = some (stepsL k) := by
 unfold board_steps_m stepsL board_steps_J1
 by_cases h2 : k = 2
 ·rw [if_pos (by simp [h2]), if_pos h2]; rfl
 ·rw [if_neg (by simp [h2]), if_neg h2]
  by_cases h3 : k = 3
  ·rw [if_pos (by simp [h3]), if_pos h3]
  ·rw [if_neg (by simp [h3]), if_neg h3]
   by_cases h4 : k = 4
   ·rw [if_pos (by simp [h4]), if_pos h4]
   ·rw [if_neg (by simp [h4]), if_neg h4, asrt_pos (by unfold bigP; omega)]
    rfl
theorem mv_all : ((List.range 64).all fun i => (dirs ++ hops).all fun s => board_moved_m (i : Int) s.1 s.2 == some (encO (mvO i s.1 s.2))) = true := by decide +kernel
theorem mv_p {i : Nat} (hi : i < 64) {s : Int × Int} (hs : s ∈ dirs ++ hops) : board_moved_m (i : Int) s.1 s.2 = some (encO (mvO i s.1 s.2)) := by
 have h := List.all_eq_true.1 (List.all_eq_true.1 mv_all i (List.mem_range.2 hi)) s hs
 exact beq_iff_eq.1 h
theorem mvO_bd {i : Nat} {sx sy : Int} {j : Nat} (h : mvO i sx sy = some j) : j < 64 ∧ (j : Int) = i + sx + 8 * sy ∧ (j : Int) % 8 = (i : Int) % 8 + sx ∧ (j : Int) / 8 = (i : Int) / 8 + sy := by
 unfold mvO at h
 split at h
 ·rename_i h2
  have h := Option.some.inj h
  omega
 ·cases h
theorem mvO_iff {i t : Nat} (ht : t < 64) {sx sy : Int} : mvO i sx sy = some t ↔ (t : Int) % 8 - (i : Int) % 8 = sx ∧ (t : Int) / 8 - (i : Int) / 8 = sy := by
 constructor
 ·intro h
  have := mvO_bd h
  omega
 ·intro h
  unfold mvO
  rw [if_pos (by omega)]
  congr 1
  omega
def sg (x : Int) : Int := if 0 < x then 1 else if x < 0 then -1 else 0
theorem ray_len : ((List.range 64).all fun i => (dirs ++ hops).all fun s => decide ((ray 8 i s.1 s.2).length < 8)) = true := by decide +kernel
theorem ray_short {i : Nat} (hi : i < 64) {s : Int × Int} (hs : s ∈ dirs ++ hops) : (ray 8 i s.1 s.2).length < 8 := by
 have h := List.all_eq_true.1 (List.all_eq_true.1 ray_len i (List.mem_range.2 hi)) s hs
 exact of_decide_eq_true h
theorem ray_geo : ((List.range 64).all fun i => dirs.all fun s => (List.range 64).all fun t => (ray 8 i s.1 s.2).contains t == (decide (s.1 = sg ((t : Int) % 8 - (i : Int) % 8) ∧ s.2 = sg ((t : Int) / 8 - (i : Int) / 8)) && (decide (((t : Int) % 8 - (i : Int) % 8).natAbs = ((t : Int) / 8 - (i : Int) / 8).natAbs) || decide ((t : Int) % 8 - (i : Int) % 8 = 0) || decide ((t : Int) / 8 - (i : Int) / 8 = 0)))) = true := by decide +kernel
theorem ray_mem {i t : Nat} (hi : i < 64) (ht : t < 64) {s : Int × Int} (hs : s ∈ dirs) : t ∈ ray 8 i s.1 s.2 ↔ (s.1 = sg ((t : Int) % 8 - (i : Int) % 8) ∧ s.2 = sg ((t : Int) / 8 - (i : Int) / 8)) ∧ (((t : Int) % 8 - (i : Int) % 8).natAbs = ((t : Int) / 8 - (i : Int) / 8).natAbs ∨ (t : Int) % 8 - (i : Int) % 8 = 0 ∨ (t : Int) / 8 - (i : Int) / 8 = 0) := by
 have h := beq_iff_eq.1 (List.all_eq_true.1 (List.all_eq_true.1 (List.all_eq_true.1 ray_geo i (List.mem_range.2 hi)) s hs) t (List.mem_range.2 ht))
 rw [← List.contains_iff_mem, h]
 simp only [Bool.and_eq_true, Bool.or_eq_true, decide_eq_true_eq, or_assoc]
theorem kind_small {x : Int} (h : -6 ≤ x ∧ x ≤ 6) : board_Kind_m x = some (x.natAbs : Int) := by
 unfold board_Kind_m maxI
 rw [w64_of (by omega)]
 congr 1
 split <;> omega
theorem size_small {x : Int} (h : -1000 ≤ x ∧ x ≤ 1000) : rf_size_m x = some (x.natAbs : Int) := by
 unfold rf_size_m rf_size_J1
 by_cases h0 : x < 0
 ·rw [if_pos (decide_eq_true h0), w64_of (by omega)]
  congr 1; omega
 ·rw [if_neg (by simpa using h0)]
  congr 1; omega
def sideI (x : Int) : Int := if 0 < x then 0 else if x < 0 then 1 else -1
theorem side_eq (x : Int) : board_Side_m x = some (sideI x) := by
 unfold board_Side_m board_Side_J1 sideI
 by_cases h1 : 0 < x <;> by_cases h2 : x < 0 <;> simp [h1, h2]
theorem sideR_eq (x : Int) : rf_pieceSide_m x = some (sideI x) := by
 unfold rf_pieceSide_m rf_pieceSide_J1 rf_pieceSide_J2 sideI
 by_cases h1 : 0 < x <;> by_cases h2 : x < 0 <;> simp [h1, h2]
theorem sign_eq (x : Int) : rf_signOf_m x = some (sg x) := by
 unfold rf_signOf_m rf_signOf_J1 rf_signOf_J2 sg
 by_cases h1 : 0 < x <;> by_cases h2 : x < 0 <;> simp [h1, h2]
theorem forward_small {x : Int} (h : -10 ≤ x ∧ x ≤ 10) : board_forward_m x = some (1 - 2 * x) := by
 unfold board_forward_m
 rw [w64_of (x := 2 * x) (by omega), w64_of (by omega)]
def scan (p : List Int) (one : Bool) (t : Nat) : List Nat → Bool
 | [] => false
 | j :: r => if j = t then true else if geti p j ≠ 0 ∨ one = true then false else scan p one t r
theorem scan_cons (p : List Int) (one : Bool) (t j : Nat) (r : List Nat) : scan p one t (j :: r) = if j = t then true else if geti p j ≠ 0 ∨ one = true then false else scan p one t r := rfl
def oneK (k : Int) : Bool := k == 2 || k == 6
def attB (p : List Int) (i t : Nat) : Bool :=
 if (geti p i).natAbs = 1 then mvO i (-1) (geti p i) == some t || mvO i 1 (geti p i) == some t
 else (stepsL ((geti p i).natAbs : Int)).any fun s => scan p (oneK ((geti p i).natAbs : Int)) t (ray 8 i s.1 s.2)
theorem scan_false {p : List Int} {one : Bool} {t : Nat} : ∀ {r : List Nat}, t ∉ r → scan p one t r = false
 | [], _ => rfl
 | j :: r, h => by
  have h1 : j ≠ t := fun e => h (by simp [e])
  have h2 : t ∉ r := fun e => h (by simp [e])
  unfold scan
  rw [if_neg h1]
  split
  ·rfl
  ·exact scan_false h2
section
variable {p : List Int} {i t : Nat} {l : List Int}
theorem yd_eq (hl : l.length ≤ 1000) (to : Int) : ydOf (fun x s => (board_Attackers_L2 (t : Int) (i : Int)) (x, s)) to (.next l) = some (if to = t then (.done (l ++ [(i : Int)]), false) else (.next l, true)) := by
 simp only [ydOf, board_Attackers_L2]
 by_cases h : to = t
 ·rw [if_pos (beq_iff_eq.2 h), if_pos h, asrt_pos (by unfold bigN; omega), Option.bind_some]
 ·rw [if_neg (by simpa using h), if_neg h, Option.bind_some]
theorem line_p (hp : p.length = 64) (hl : l.length ≤ 1000) (k : Int) {r6 : List (Int × Int)} {z : Nat} {s : Int × Int} (hz : r6[z]? = some s) (hs : s ∈ dirs ++ hops) : ∀ (n : Nat) (j : Nat), j < 64 → (ray n j s.1 s.2).length < n →
  loop (board_Reach_1_L3 (ydOf (fun x s => (board_Attackers_L2 (t : Int) (i : Int)) (x, s))) p k r6 z) (.next l, encO (mvO j s.1 s.2)) = some (if scan p (oneK k) t (ray n j s.1 s.2) then .ret (.done (l ++ [(i : Int)])) else .go (.next l))
 | 0, _, _, h => by simp at h
 | n + 1, j, hj, h => by
  cases hm : mvO j s.1 s.2 with
  | none =>
   rw [ray_none hm]
   simp only [scan, Bool.false_eq_true, if_false]
   refine loop_done ?_
   simp only [board_Reach_1_L3]
   rw [encN, if_neg (by decide)]
  | some q =>
   rw [ray_some hm] at h ⊢
   have hq := (mvO_bd hm).1
   rw [encS, scan_cons]
   have e0 : board_Reach_1_L3 (ydOf (fun x s => (board_Attackers_L2 (t : Int) (i : Int)) (x, s))) p k r6 z (.next l, (q : Int)) = board_Reach_1_J7 (ydOf (fun x s => (board_Attackers_L2 (t : Int) (i : Int)) (x, s))) p k r6 z (.next l) q := by
    simp only [board_Reach_1_L3]
    exact if_pos (decide_eq_true (by omega))
   unfold board_Reach_1_J7 at e0
   rw [yd_eq hl, Option.bind_some] at e0
   by_cases hqt : q = t
   ·rw [if_pos (show (q : Int) = t by omega)] at e0
    simp only [Bool.not_false, if_true] at e0
    rw [loop_done e0, if_pos hqt]
    rfl
   ·rw [if_neg (show ¬ (q : Int) = t by omega)] at e0
    simp only [Bool.not_true, Bool.false_eq_true, if_false] at e0
    unfold board_Reach_1_J9 at e0
    rw [asrt_pos (by omega)] at e0
    by_cases hc : geti p q ≠ 0 ∨ oneK k = true
    ·rw [if_pos (by
      unfold oneK at hc
      simp only [Bool.or_eq_true, bne_iff_ne, beq_iff_eq] at hc ⊢
      rcases hc with h | h | h
      ·exact .inl (.inl h)
      ·exact .inl (.inr h)
      ·exact .inr h)] at e0
     rw [loop_done e0, if_neg hqt, if_pos hc]
     rfl
    ·rw [if_neg (by
      unfold oneK at hc
      simp only [Bool.or_eq_true, bne_iff_ne, beq_iff_eq] at hc ⊢
      intro h
      apply hc
      rcases h with (h | h) | h
      ·exact .inl h
      ·exact .inr (.inl h)
      ·exact .inr (.inr h))] at e0
     unfold board_Reach_1_J8 at e0
     rw [getd_some hz, mv_p hq hs, Option.bind_some] at e0
     have ih := line_p hp hl k hz hs n q hq (by simp only [List.length_cons] at h; omega)
     rw [loop_next' e0 ih, if_neg hqt, if_neg hc]
end
theorem steps_in {k : Int} {s : Int × Int} (h : s ∈ stepsL k) : s ∈ dirs ++ hops := by
 unfold stepsL at h
 rw [List.mem_append]
 split at h
 ·exact .inr h
 ·split at h
  ·left; simp only [List.mem_cons, List.not_mem_nil, or_false] at h; rcases h with rfl | rfl | rfl | rfl <;> decide
  ·split at h
   ·left; simp only [List.mem_cons, List.not_mem_nil, or_false] at h; rcases h with rfl | rfl | rfl | rfl <;> decide
   ·exact .inl h
theorem steps_len (k : Int) : (stepsL k).length ≤ 8 := by
 unfold stepsL
 split
 ·decide
 ·split
  ·decide
  ·split <;> decide
theorem reach_p {p : List Int} {i t : Nat} {l : List Int} (hp : p.length = 64) (hi : i < 64) (hl : l.length ≤ 1000) (hx : (-6 ≤ geti p i ∧ geti p i ≤ 6) ∧ geti p i ≠ 0) :
  board_Reach_1_m (ydOf (fun x s => (board_Attackers_L2 (t : Int) (i : Int)) (x, s))) (.next l) p (i : Int) = some (if attB p i t then .done (l ++ [(i : Int)]) else .next l) := by
 unfold board_Reach_1_m attB
 rw [asrt_pos (by omega), kind_small hx.1, Option.bind_some, if_neg (by simp; omega)]
 by_cases h1 : (geti p i).natAbs = 1
 ·rw [if_pos (by simp [h1]), if_pos h1]
  have hs : sideI (geti p i) = 0 ∧ geti p i = 1 ∨ sideI (geti p i) = 1 ∧ geti p i = -1 := by
   unfold sideI
   have : geti p i = 1 ∨ geti p i = -1 := by omega
   rcases this with h | h <;> rw [h] <;> decide
  have step : ∀ (z : Nat) (c : Int), z < 2 → geti ([-1, 1] : List Int) (z : Int) = c → (c, geti p i) ∈ dirs ++ hops → board_Reach_1_L1 (ydOf (fun x s => (board_Attackers_L2 (t : Int) (i : Int)) (x, s))) p i (.next l, (z : Int)) = some (if mvO i c (geti p i) = some t then .done (.ret (.done (l ++ [(i : Int)]))) else .next (.next l, ((z + 1 : Nat) : Int))) := by
   intro z c hz hc hd
   simp only [board_Reach_1_L1]
   rw [if_pos (decide_eq_true (by omega))]
   unfold board_Reach_1_J2 board_Reach_1_J4 board_Reach_1_J3
   rw [asrt_pos (by omega), side_eq, Option.bind_some, forward_small (by unfold sideI; split <;> (try split) <;> omega), Option.bind_some, hc]
   have e : (1 - 2 * sideI (geti p i)) = geti p i := by
    rcases hs with ⟨h2, h3⟩ | ⟨h2, h3⟩ <;> rw [h2, h3] <;> rfl
   rw [e, mv_p hi hd, Option.bind_some, w64_of (by omega)]
   cases hm : mvO i c (geti p i) with
   | none =>
    rw [encN]
    simp
   | some q =>
    have hd : decide ((0 : Int) ≤ (q : Int)) = true := decide_eq_true (by omega)
    rw [encS, hd, if_pos rfl, yd_eq hl, Option.bind_some]
    by_cases hq : q = t
    ·rw [if_pos (show (q : Int) = t by omega), if_pos (show some q = some t by rw [hq])]
     simp
    ·rw [if_neg (show ¬ (q : Int) = t by omega), if_neg (show ¬ some q = some t by simpa using hq)]
     simp
  have d1 : ((-1 : Int), geti p i) ∈ dirs ++ hops ∧ ((1 : Int), geti p i) ∈ dirs ++ hops := by
   rcases hs with ⟨h2, h3⟩ | ⟨h2, h3⟩ <;> rw [h3] <;> decide
  have s0 := step 0 (-1) (by omega) rfl d1.1
  have s1 := step 1 1 (by omega) rfl d1.2
  have s2 : board_Reach_1_L1 (ydOf (fun x s => (board_Attackers_L2 (t : Int) (i : Int)) (x, s))) p i (.next l, ((2 : Nat) : Int)) = some (.done (.go (.next l))) := by
   simp only [board_Reach_1_L1]
   exact if_neg (by decide)
  by_cases c0 : mvO i (-1) (geti p i) = some t
  ·rw [if_pos c0] at s0
   have h := loop_done s0
   rw [show (((0 : Nat) : Int)) = 0 from rfl] at h
   rw [h, Option.bind_some]
   simp [board_Reach_1_K1, c0]
  ·rw [if_neg c0] at s0
   by_cases c1 : mvO i 1 (geti p i) = some t
   ·rw [if_pos c1] at s1
    have h := loop_next' s0 (loop_done s1)
    rw [show (((0 : Nat) : Int)) = 0 from rfl] at h
    rw [h, Option.bind_some]
    simp [board_Reach_1_K1, c1]
   ·rw [if_neg c1] at s1
    have h := loop_next' s0 (loop_next' s1 (loop_done s2))
    rw [show (((0 : Nat) : Int)) = 0 from rfl] at h
    rw [h, Option.bind_some]
    simp [board_Reach_1_K1, board_Reach_1_J1, c0, c1]
 ·rw [if_neg (by simp; omega), if_neg h1, steps_p, Option.bind_some]
  generalize hk : (((geti p i).natAbs : Nat) : Int) = k
  have hsl := steps_len k
  have key := count_loop (step := board_Reach_1_L2 (ydOf (fun x s => (board_Attackers_L2 (t : Int) (i : Int)) (x, s))) p i k (stepsL k)) (fun (_ : Unit) (z : Nat) => ((St.next l : St (List Int) (List Int)), (z : Int))) (fun n _ => ((stepsL k).take n).any (fun s => scan p (oneK k) t (ray 8 i s.1 s.2)) = false) (fun r => r = if (stepsL k).any (fun s => scan p (oneK k) t (ray 8 i s.1 s.2)) = true then (Fl.ret (St.done (l ++ [(i : Int)])) : Fl (St (List Int) (List Int)) (St (List Int) (List Int))) else Fl.go (.next l)) (stepsL k).length () (by simp) (by
   rintro z _ hz hI
   obtain ⟨s, hs⟩ : ∃ s, (stepsL k)[z]? = some s := ⟨_, List.getElem?_eq_getElem hz⟩
   have hsm := steps_in (List.mem_of_getElem? hs)
   have hl8 := line_p (p := p) (i := i) (t := t) hp hl k (z := z) hs hsm 8 i hi (ray_short hi hsm)
   have e0 : board_Reach_1_L2 (ydOf (fun x s => (board_Attackers_L2 (t : Int) (i : Int)) (x, s))) p i k (stepsL k) (.next l, (z : Int)) = board_Reach_1_J5 (ydOf (fun x s => (board_Attackers_L2 (t : Int) (i : Int)) (x, s))) p i k (stepsL k) (.next l) z := by
    simp only [board_Reach_1_L2]
    exact if_pos (decide_eq_true (by omega))
   unfold board_Reach_1_J5 at e0
   have hg : getd ((0, 0) : Int × Int) (stepsL k) (z : Int) = s := getd_some hs
   rw [asrt_pos (by omega), hg, mv_p hi hsm, Option.bind_some, hl8, Option.bind_some] at e0
   have htk : (stepsL k).take (z + 1) = (stepsL k).take z ++ [s] := by rw [List.take_add_one, hs]; rfl
   cases hsc : scan p (oneK k) t (ray 8 i s.1 s.2) with
   | true =>
    right
    rw [hsc] at e0
    refine ⟨_, e0.trans rfl, ?_⟩
    rw [if_pos (List.any_eq_true.2 ⟨s, List.mem_of_getElem? hs, hsc⟩)]
   | false =>
    left
    rw [hsc] at e0
    refine ⟨(), e0.trans ?_, ?_⟩
    ·simp only [Bool.false_eq_true, if_false, board_Reach_1_K3, board_Reach_1_J6]
     rw [w64_of (by omega)]
     rfl
    ·rw [htk, List.any_append, hI]
     simp [hsc]) (by
   rintro _ hI
   rw [List.take_length] at hI
   refine ⟨Fl.go (.next l), ?_, by rw [hI]; simp⟩
   simp only [board_Reach_1_L2]
   rw [if_neg (by simp)])
  obtain ⟨r, hr, rfl⟩ := key
  have hr' : loop (board_Reach_1_L2 (ydOf (fun x s => (board_Attackers_L2 (t : Int) (i : Int)) (x, s))) p i k (stepsL k)) (.next l, 0) = _ := hr
  rw [hr', Option.bind_some]
  cases (stepsL k).any (fun s => scan p (oneK k) t (ray 8 i s.1 s.2)) <;> rfl
end Go.Proofs.Ytfmmlmiakkjaiaa
