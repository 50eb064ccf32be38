import Derived.Test.YtkpkkdpfcbnfdaaNMP
import Derived.Test.YtkpkkdpfcbnfdaaLibK
import Derived.Test.YtkpkkdpfcbnfdaaLibY
import Derived.Test.YtkpkkdpfcbnfdaaLibE
import Derived.Test.YtkpkkdpfcbnfdaaLibT
namespace Go.Proofs.Ytkpkkdpfcbnfdaa
open Go Go.GL
def mvO (i : Nat) (sx sy : Int) : Option Nat :=
 if 0 ≤ (i : Int) % 8 + sx ∧ (i : Int) % 8 + sx ≤ 7 ∧ 0 ≤ (i : Int) / 8 + sy ∧ (i : Int) / 8 + sy ≤ 7 then some (((i : Int) / 8 + sy) * 8 + ((i : Int) % 8 + sx)).toNat else none
def encO : Option Nat → Int
 | none => -1
 | some j => (j : Int)
theorem encN : encO none = -1 := rfl
theorem encS (q : Nat) : encO (some q) = (q : Int) := rfl
def ray : Nat → Nat → Int → Int → List Nat
 | 0, _, _, _ => []
 | n + 1, i, sx, sy => match mvO i sx sy with
  | none => []
  | some j => j :: ray n j sx sy
theorem ray_none {n i : Nat} {sx sy : Int} (h : mvO i sx sy = none) : ray (n + 1) i sx sy = [] := by unfold ray; rw [h]
theorem ray_some {n i j : Nat} {sx sy : Int} (h : mvO i sx sy = some j) : ray (n + 1) i sx sy = j :: ray n j sx sy := by rw [ray]; rw [h]
def dirs : List (Int × Int) := [(1, 1), (1, -1), (-1, 1), (-1, -1), (1, 0), (-1, 0), (0, 1), (0, -1)]
def hops : List (Int × Int) := [(1, 2), (2, 1), (2, -1), (1, -2), (-1, -2), (-2, -1), (-2, 1), (-1, 2)]
def stepsL (k : Int) : List (Int × Int) :=
 if k = 2 then hops else if k = 3 then [(1, 1), (1, -1), (-1, 1), (-1, -1)] else if k = 4 then [(1, 0), (-1, 0), (0, 1), (0, -1)] else dirs
theorem steps_p (k : Int) : board_steps_m k = some (stepsL k) := by
 unfold board_steps_m stepsL board_steps_J1
 by_cases h2 : k = 2
 ·rw [if_pos (by simp [h2]), if_pos h2]; rfl
 ·rw [if_neg (by simp [h2]), if_neg h2]
  by_cases h3 : k = 3
  ·rw [if_pos (by simp [h3]), if_pos h3]
  ·rw [if_neg (by simp [h3]), if_neg h3]
   by_cases h4 : k = 4
   ·rw [if_pos (by simp [h4]), if_pos h4]
   ·rw [if_neg (by simp [h4]), if_neg h4, asrt_pos (by unfold bigP; omega)]
    rfl
theorem mv_all : ((List.range 64).all fun i => (dirs ++ hops).all fun s => board_moved_m (i : Int) s.1 s.2 == some (encO (mvO i s.1 s.2))) = true := by decide +kernel
theorem mv_p {i : Nat} (hi : i < 64) {s : Int × Int} (hs : s ∈ dirs ++ hops) : board_moved_m (i : Int) s.1 s.2 = some (encO (mvO i s.1 s.2)) := by
 have h := List.all_eq_true.1 (List.all_eq_true.1 mv_all i (List.mem_range.2 hi)) s hs
 exact beq_iff_eq.1 h
theorem mvO_bd {i : Nat} {sx sy : Int} {j : Nat} (h : mvO i sx sy = some j) : j < 64 ∧ (j : Int) = i + sx + 8 * sy ∧ (j : Int) % 8 = (i : Int) % 8 + sx ∧ (j : Int) / 8 = (i : Int) / 8 + sy := by
 unfold mvO at h
 split at h
 ·rename_i h2
  have h := Option.some.inj h
  omega
 ·cases h
theorem mvO_iff {i t : Nat} (ht : t < 64) {sx sy : Int} : mvO i sx sy = some t ↔ (t : Int) % 8 - (i : Int) % 8 = sx ∧ (t : Int) / 8 - (i : Int) / 8 = sy := by
 constructor
 ·intro h
  have := mvO_bd h
  omega
 ·intro h
  unfold mvO
  rw [if_pos (by omega)]
  congr 1
  omega
def sg (x : Int) : Int := if 0 < x then 1 else if x < 0 then -1 else 0
theorem ray_len : ((List.range 64).all fun i => (dirs ++ hops).all fun s => decide ((ray 8 i s.1 s.2).length < 8)) = true := by decide +kernel
theorem ray_short {i : Nat} (hi : i < 64) {s : Int × Int} (hs : s ∈ dirs ++ hops) : (ray 8 i s.1 s.2).length < 8 := by
 have h := List.all_eq_true.1 (List.all_eq_true.1 ray_len i (List.mem_range.2 hi)) s hs
 exact of_decide_eq_true h
theorem ray_geo : ((List.range 64).all fun i => dirs.all fun s => (List.range 64).all fun t => (ray 8 i s.1 s.2).contains t == (decide (s.1 = sg ((t : Int) % 8 - (i : Int) % 8) ∧ s.2 = sg ((t : Int) / 8 - (i : Int) / 8)) && (decide (((t : Int) % 8 - (i : Int) % 8).natAbs = ((t : Int) / 8 - (i : Int) / 8).natAbs) || decide ((t : Int) % 8 - (i : Int) % 8 = 0) || decide ((t : Int) / 8 - (i : Int) / 8 = 0)))) = true := by decide +kernel
theorem ray_mem {i t : Nat} (hi : i < 64) (ht : t < 64) {s : Int × Int} (hs : s ∈ dirs) : t ∈ ray 8 i s.1 s.2 ↔ (s.1 = sg ((t : Int) % 8 - (i : Int) % 8) ∧ s.2 = sg ((t : Int) / 8 - (i : Int) / 8)) ∧ (((t : Int) % 8 - (i : Int) % 8).natAbs = ((t : Int) / 8 - (i : Int) / 8).natAbs ∨ (t : Int) % 8 - (i : Int) % 8 = 0 ∨ (t : Int) / 8 - (i : Int) / 8 = 0) := by
 have h := beq_iff_eq.1 (List.all_eq_true.1 (List.all_eq_true.1 (List.all_eq_true.1 ray_geo i (List.mem_range.2 hi)) s hs) t (List.mem_range.2 ht))
 rw [← List.contains_iff_mem, h]
 simp only [Bool.and_eq_true, Bool.or_eq_true, decide_eq_true_eq, or_assoc]
theorem kind_small {x : Int} (h : -6 ≤ x ∧ x ≤ 6) : board_Kind_m x = some (x.natAbs : Int) := by
 unfold board_Kind_m maxI
 rw [w64_of (by omega)]
 congr 1
 split <;> omega
theorem size_small {x : Int} (h : -1000 ≤ x ∧ x ≤ 1000) : rf_size_m x = some (x.natAbs : Int) := by
 unfold rf_size_m rf_size_J1
 by_cases h0 : x < 0
 ·rw [if_pos (decide_eq_true h0), w64_of (by omega)]
  congr 1; omega
 ·rw [if_neg (by simpa using h0)]
  congr 1; omega
def sideI (x : Int) : Int := if 0 < x then 0 else if x < 0 then 1 else -1
theorem side_eq (x : Int) : board_Side_m x = some (sideI x) := by
 unfold board_Side_m board_Side_J1 sideI
 by_cases h1 : 0 < x <;> by_cases h2 : x < 0 <;> simp [h1, h2]
theorem sideR_eq (x : Int) : rf_pieceSide_m x = some (sideI x) := by
 unfold rf_pieceSide_m rf_pieceSide_J1 rf_pieceSide_J2 sideI
 by_cases h1 : 0 < x <;> by_cases h2 : x < 0 <;> simp [h1, h2]
theorem sign_eq (x : Int) : rf_signOf_m x = some (sg x) := by
 unfold rf_signOf_m rf_signOf_J1 rf_signOf_J2 sg
 by_cases h1 : 0 < x <;> by_cases h2 : x < 0 <;> simp [h1, h2]
theorem forward_small {x : Int} (h : -10 ≤ x ∧ x ≤ 10) : board_forward_m x = some (1 - 2 * x) := by
 unfold board_forward_m
 rw [w64_of (x := 2 * x) (by omega), w64_of (by omega)]
def scan (p : List Int) (one : Bool) (t : Nat) : List Nat → Bool
 | [] => false
 | j :: r => if j = t then true else if geti p j ≠ 0 ∨ one = true then false else scan p one t r
theorem scan_cons (p : List Int) (one : Bool) (t j : Nat) (r : List Nat) : scan p one t (j :: r) = if j = t then true else if geti p j ≠ 0 ∨ one = true then false else scan p one t r := rfl
def oneK (k : Int) : Bool := k == 2 || k == 6
def attB (p : List Int) (i t : Nat) : Bool :=
 if (geti p i).natAbs = 1 then mvO i (-1) (geti p i) == some t || mvO i 1 (geti p i) == some t
 else (stepsL ((geti p i).natAbs : Int)).any fun s => scan p (oneK ((geti p i).natAbs : Int)) t (ray 8 i s.1 s.2)
theorem scan_false {p : List Int} {one : Bool} {t : Nat} : ∀ {r : List Nat}, t ∉ r → scan p one t r = false
 | [], _ => rfl
 | j :: r, h => by
  have h1 : j ≠ t := fun e => h (by simp [e])
  have h2 : t ∉ r := fun e => h (by simp [e])
  unfold scan
  rw [if_neg h1]
  split
  ·rfl
  ·exact scan_false h2
section
variable {p : List Int} {i t : Nat} {l : List Int}
theorem yd_eq (hl : l.length ≤ 1000) (to : Int) : ydOf (fun x s => (board_Attackers_L2 (t : Int) (i : Int)) (x, s)) to (.next l) = some (if to = t then (.done (l ++ [(i : Int)]), false) else (.next l, true)) := by
 simp only [ydOf, board_Attackers_L2]
 by_cases h : to = t
 ·rw [if_pos (beq_iff_eq.2 h), if_pos h, asrt_pos (by unfold bigN; omega), Option.bind_some]
 ·rw [if_neg (by simpa using h), if_neg h, Option.bind_some]
theorem line_p (hp : p.length = 64) (hl : l.length ≤ 1000) (k : Int) {r6 : List (Int × Int)} {z : Nat} {s : Int × Int} (hz : r6[z]? = some s) (hs : s ∈ dirs ++ hops) : ∀ (n : Nat) (j : Nat), j < 64 → (ray n j s.1 s.2).length < n →
  loop (board_Reach_1_L3 (ydOf (fun x s => (board_Attackers_L2 (t : Int) (i : Int)) (x, s))) p k r6 z) (.next l, encO (mvO j s.1 s.2)) = some (if scan p (oneK k) t (ray n j s.1 s.2) then .ret (.done (l ++ [(i : Int)])) else .go (.next l))
 | 0, _, _, h => by simp at h
 | n + 1, j, hj, h => by
  cases hm : mvO j s.1 s.2 with
  | none =>
   rw [ray_none hm]
   simp only [scan, Bool.false_eq_true, if_false]
   refine loop_done ?_
   simp only [board_Reach_1_L3]
   rw [encN, if_neg (by decide)]
  | some q =>
   rw [ray_some hm] at h ⊢
   have hq := (mvO_bd hm).1
   rw [encS, scan_cons]
   have e0 : board_Reach_1_L3 (ydOf (fun x s => (board_Attackers_L2 (t : Int) (i : Int)) (x, s))) p k r6 z (.next l, (q : Int)) = board_Reach_1_J7 (ydOf (fun x s => (board_Attackers_L2 (t : Int) (i : Int)) (x, s))) p k r6 z (.next l) q := by
    simp only [board_Reach_1_L3]
    exact if_pos (decide_eq_true (by omega))
   unfold board_Reach_1_J7 at e0
   rw [yd_eq hl, Option.bind_some] at e0
   by_cases hqt : q = t
   ·rw [if_pos (show (q : Int) = t by omega)] at e0
    simp only [Bool.not_false, if_true] at e0
    rw [loop_done e0, if_pos hqt]
    rfl
   ·rw [if_neg (show ¬ (q : Int) = t by omega)] at e0
    simp only [Bool.not_true, Bool.false_eq_true, if_false] at e0
    unfold board_Reach_1_J9 at e0
    rw [asrt_pos (by omega)] at e0
    by_cases hc : geti p q ≠ 0 ∨ oneK k = true
    ·rw [if_pos (by
      unfold oneK at hc
      simp only [Bool.or_eq_true, bne_iff_ne, beq_iff_eq] at hc ⊢
      rcases hc with h | h | h
      ·exact .inl (.inl h)
      ·exact .inl (.inr h)
      ·exact .inr h)] at e0
     rw [loop_done e0, if_neg hqt, if_pos hc]
     rfl
    ·rw [if_neg (by
      unfold oneK at hc
      simp only [Bool.or_eq_true, bne_iff_ne, beq_iff_eq] at hc ⊢
      intro h
      apply hc
      rcases h with (h | h) | h
      ·exact .inl h
      ·exact .inr (.inl h)
      ·exact .inr (.inr h))] at e0
     unfold board_Reach_1_J8 at e0
     rw [getd_some hz, mv_p hq hs, Option.bind_some] at e0
     have ih := line_p hp hl k hz hs n q hq (by simp only [List.length_cons] at h; omega)
     rw [loop_next' e0 ih, if_neg hqt, if_neg hc]
end
theorem steps_in {k : Int} {s : Int × Int} (h : s ∈ stepsL k) : s ∈ dirs ++ hops := by
 unfold stepsL at h
 rw [List.mem_append]
 split at h
 ·exact .inr h
 ·split at h
  ·left; simp only [List.mem_cons, List.not_mem_nil, or_false] at h; rcases h with rfl | rfl | rfl | rfl <;> decide
  ·split at h
   ·left; simp only [List.mem_cons, List.not_mem_nil, or_false] at h; rcases h with rfl | rfl | rfl | rfl <;> decide
   ·exact .inl h
theorem steps_len (k : Int) : (stepsL k).length ≤ 8 := by
 unfold stepsL
 split
 ·decide
 ·split
  ·decide
  ·split <;> decide
theorem reach_p {p : List Int} {i t : Nat} {l : List Int} (hp : p.length = 64) (hi : i < 64) (hl : l.length ≤ 1000) (hx : (-6 ≤ geti p i ∧ geti p i ≤ 6) ∧ geti p i ≠ 0) :
  board_Reach_1_m (ydOf (fun x s => (board_Attackers_L2 (t : Int) (i : Int)) (x, s))) (.next l) p (i : Int) = some (if attB p i t then .done (l ++ [(i : Int)]) else .next l) := by
 unfold board_Reach_1_m attB
 rw [asrt_pos (by omega), kind_small hx.1, Option.bind_some, if_neg (by simp; omega)]
 by_cases h1 : (geti p i).natAbs = 1
 ·rw [if_pos (by simp [h1]), if_pos h1]
  have hs : sideI (geti p i) = 0 ∧ geti p i = 1 ∨ sideI (geti p i) = 1 ∧ geti p i = -1 := by
   unfold sideI
   have : geti p i = 1 ∨ geti p i = -1 := by omega
   rcases this with h | h <;> rw [h] <;> decide
  have step : ∀ (z : Nat) (c : Int), z < 2 → geti ([-1, 1] : List Int) (z : Int) = c → (c, geti p i) ∈ dirs ++ hops → board_Reach_1_L1 (ydOf (fun x s => (board_Attackers_L2 (t : Int) (i : Int)) (x, s))) p i (.next l, (z : Int)) = some (if mvO i c (geti p i) = some t then .done (.ret (.done (l ++ [(i : Int)]))) else .next (.next l, ((z + 1 : Nat) : Int))) := by
   intro z c hz hc hd
   simp only [board_Reach_1_L1]
   rw [if_pos (decide_eq_true (by omega))]
   unfold board_Reach_1_J2 board_Reach_1_J4 board_Reach_1_J3
   rw [asrt_pos (by omega), side_eq, Option.bind_some, forward_small (by unfold sideI; split <;> (try split) <;> omega), Option.bind_some, hc]
   have e : (1 - 2 * sideI (geti p i)) = geti p i := by
    rcases hs with ⟨h2, h3⟩ | ⟨h2, h3⟩ <;> rw [h2, h3] <;> rfl
   rw [e, mv_p hi hd, Option.bind_some, w64_of (by omega)]
   cases hm : mvO i c (geti p i) with
   | none =>
    rw [encN]
    simp
   | some q =>
    have hd : decide ((0 : Int) ≤ (q : Int)) = true := decide_eq_true (by omega)
    rw [encS, hd, if_pos rfl, yd_eq hl, Option.bind_some]
    by_cases hq : q = t
    ·rw [if_pos (show (q : Int) = t by omega), if_pos (show some q = some t by rw [hq])]
     simp
    ·rw [if_neg (show ¬ (q : Int) = t by omega), if_neg (show ¬ some q = some t by simpa using hq)]
     simp
  have d1 : ((-1 : Int), geti p i) ∈ dirs ++ hops ∧ ((1 : Int), geti p i) ∈ dirs ++ hops := by
   rcases hs with ⟨h2, h3⟩ | ⟨h2, h3⟩ <;> rw [h3] <;> decide
  have s0 := step 0 (-1) (by omega) rfl d1.1
  have s1 := step 1 1 (by omega) rfl d1.2
  have s2 : board_Reach_1_L1 (ydOf (fun x s => (board_Attackers_L2 (t : Int) (i : Int)) (x, s))) p i (.next l, ((2 : Nat) : Int)) = some (.done (.go (.next l))) := by
   simp only [board_Reach_1_L1]
   exact if_neg (by decide)
  by_cases c0 : mvO i (-1) (geti p i) = some t
  ·rw [if_pos c0] at s0
   have h := loop_done s0
   rw [show (((0 : Nat) : Int)) = 0 from rfl] at h
   rw [h, Option.bind_some]
   simp [board_Reach_1_K1, c0]
  ·rw [if_neg c0] at s0
   by_cases c1 : mvO i 1 (geti p i) = some t
   ·rw [if_pos c1] at s1
    have h := loop_next' s0 (loop_done s1)
    rw [show (((0 : Nat) : Int)) = 0 from rfl] at h
    rw [h, Option.bind_some]
    simp [board_Reach_1_K1, c1]
   ·rw [if_neg c1] at s1
    have h := loop_next' s0 (loop_next' s1 (loop_done s2))
    rw [show (((0 : Nat) : Int)) = 0 from rfl] at h
    rw [h, Option.bind_some]
    simp [board_Reach_1_K1, board_Reach_1_J1, c0, c1]
 ·rw [if_neg (by simp; omega), if_neg h1, steps_p, Option.bind_some]
  generalize hk : (((geti p i).natAbs : Nat) : Int) = k
  have hsl := steps_len k
  have key := count_loop (step := board_Reach_1_L2 (ydOf (fun x s => (board_Attackers_L2 (t : Int) (i : Int)) (x, s))) p i k (stepsL k)) (fun (_ : Unit) (z : Nat) => ((St.next l : St (List Int) (List Int)), (z : Int))) (fun n _ => ((stepsL k).take n).any (fun s => scan p (oneK k) t (ray 8 i s.1 s.2)) = false) (fun r => r = if (stepsL k).any (fun s => scan p (oneK k) t (ray 8 i s.1 s.2)) = true then (Fl.ret (St.done (l ++ [(i : Int)])) : Fl (St (List Int) (List Int)) (St (List Int) (List Int))) else Fl.go (.next l)) (stepsL k).length () (by simp) (by
   rintro z _ hz hI
   obtain ⟨s, hs⟩ : ∃ s, (stepsL k)[z]? = some s := ⟨_, List.getElem?_eq_getElem hz⟩
   have hsm := steps_in (List.mem_of_getElem? hs)
   have hl8 := line_p (p := p) (i := i) (t := t) hp hl k (z := z) hs hsm 8 i hi (ray_short hi hsm)
   have e0 : board_Reach_1_L2 (ydOf (fun x s => (board_Attackers_L2 (t : Int) (i : Int)) (x, s))) p i k (stepsL k) (.next l, (z : Int)) = board_Reach_1_J5 (ydOf (fun x s => (board_Attackers_L2 (t : Int) (i : Int)) (x, s))) p i k (stepsL k) (.next l) z := by
    simp only [board_Reach_1_L2]
    exact if_pos (decide_eq_true (by omega))
   unfold board_Reach_1_J5 at e0
   have hg : getd ((0, 0) : Int × Int) (stepsL k) (z : Int) = s := getd_some hs
   rw [asrt_pos (by omega), hg, mv_p hi hsm, Option.bind_some, hl8, Option.bind_some] at e0
   have htk : (stepsL k).take (z + 1) = (stepsL k).take z ++ [s] := by rw [List.take_add_one, hs]; rfl
   cases hsc : scan p (oneK k) t (ray 8 i s.1 s.2) with
   | true =>
    right
    rw [hsc] at e0
    refine ⟨_, e0.trans rfl, ?_⟩
    rw [if_pos (List.any_eq_true.2 ⟨s, List.mem_of_getElem? hs, hsc⟩)]
   | false =>
    left
    rw [hsc] at e0
    refine ⟨(), e0.trans ?_, ?_⟩
    ·simp only [Bool.false_eq_true, if_false, board_Reach_1_K3, board_Reach_1_J6]
     rw [w64_of (by omega)]
     rfl
    ·rw [htk, List.any_append, hI]
     simp [hsc]) (by
   rintro _ hI
   rw [List.take_length] at hI
   refine ⟨Fl.go (.next l), ?_, by rw [hI]; simp⟩
   simp only [board_Reach_1_L2]
   rw [if_neg (by simp)])
  obtain ⟨r, hr, rfl⟩ := key
  have hr' : loop (board_Reach_1_L2 (ydOf (fun x s => (board_Attackers_L2 (t : Int) (i : Int)) (x, s))) p i k (stepsL k)) (.next l, 0) = _ := hr
  rw [hr', Option.bind_some]
  cases (stepsL k).any (fun s => scan p (oneK k) t (ray 8 i s.1 s.2)) <;> rfl
end Go.Proofs.Ytkpkkdpfcbnfdaa
namespace Go.Proofs.Ytkpkkdpfcbnfdaa
open Go Go.GL
theorem sg_bd (x : Int) : -1 ≤ sg x ∧ sg x ≤ 1 := by unfold sg; split <;> (try split) <;> omega
def ivs : List Int := [-7, -6, -5, -4, -3, -2, -1, 0, 1, 2, 3, 4, 5, 6, 7]
theorem ivs_mem {x : Int} (h : -7 ≤ x ∧ x ≤ 7) : x ∈ ivs := by
 have : x = -7 ∨ x = -6 ∨ x = -5 ∨ x = -4 ∨ x = -3 ∨ x = -2 ∨ x = -1 ∨ x = 0 ∨ x = 1 ∨ x = 2 ∨ x = 3 ∨ x = 4 ∨ x = 5 ∨ x = 6 ∨ x = 7 := by omega
 rcases this with rfl | rfl | rfl | rfl | rfl | rfl | rfl | rfl | rfl | rfl | rfl | rfl | rfl | rfl | rfl <;> decide
theorem geo_tab : (ivs.all fun x => ivs.all fun y => (hops.any (fun s => decide (x = s.1 ∧ y = s.2)) == decide ((x * y).natAbs = 2)) && (dirs.any (fun s => decide (x = s.1 ∧ y = s.2)) == (!decide (x = 0 ∧ y = 0) && (decide (x.natAbs ≤ 1) && decide (y.natAbs ≤ 1)))) &&
  (decide ((x = 0 ∧ y = 0) ∨ ¬ (x.natAbs = y.natAbs ∨ x = 0 ∨ y = 0)) || dirs.contains (sg x, sg y)) && (decide ((x = 0 ∧ y = 0) ∨ ¬ x.natAbs = y.natAbs) == !((stepsL 3).contains (sg x, sg y) && decide (x.natAbs = y.natAbs))) && (decide ((x = 0 ∧ y = 0) ∨ ¬ (x = 0 ∨ y = 0)) == !((stepsL 4).contains (sg x, sg y) && decide (x = 0 ∨ y = 0))) && decide (-49 ≤ x * y ∧ x * y ≤ 49)
  && (decide (x.natAbs = y.natAbs) || !(stepsL 3).contains (sg x, sg y) || decide (¬ (x = 0 ∨ y = 0))) && (decide (x = 0 ∨ y = 0) || !(stepsL 4).contains (sg x, sg y))) = true := by decide +kernel
structure Geo (x y : Int) : Prop where
 hop : (∃ s ∈ hops, x = s.1 ∧ y = s.2) ↔ (x * y).natAbs = 2
 king : (∃ s ∈ dirs, x = s.1 ∧ y = s.2) ↔ ¬ (x = 0 ∧ y = 0) ∧ x.natAbs ≤ 1 ∧ y.natAbs ≤ 1
 dir : ¬ (x = 0 ∧ y = 0) → (x.natAbs = y.natAbs ∨ x = 0 ∨ y = 0) → (sg x, sg y) ∈ dirs
 s3 : ¬ (x = 0 ∧ y = 0) → x.natAbs = y.natAbs → (sg x, sg y) ∈ stepsL 3
 s4 : ¬ (x = 0 ∧ y = 0) → (x = 0 ∨ y = 0) → (sg x, sg y) ∈ stepsL 4
 n3 : (x = 0 ∨ y = 0) → ¬ x.natAbs = y.natAbs → (sg x, sg y) ∉ stepsL 3
 n4 : ¬ (x = 0 ∨ y = 0) → (sg x, sg y) ∉ stepsL 4
 bd : -49 ≤ x * y ∧ x * y ≤ 49
theorem geo {x y : Int} (hx : -7 ≤ x ∧ x ≤ 7) (hy : -7 ≤ y ∧ y ≤ 7) : Geo x y := by
 have h := List.all_eq_true.1 (List.all_eq_true.1 geo_tab x (ivs_mem hx)) y (ivs_mem hy)
 simp only [Bool.and_eq_true, Bool.or_eq_true, beq_iff_eq, decide_eq_true_eq] at h
 obtain ⟨⟨⟨⟨⟨⟨⟨h1, h2⟩, h3⟩, h4⟩, h5⟩, h6⟩, h7⟩, h8⟩ := h
 rw [Bool.eq_iff_iff] at h1 h2 h4 h5
 simp only [List.any_eq_true, decide_eq_true_eq, Bool.and_eq_true, Bool.not_eq_true', decide_eq_false_iff_not, List.contains_iff_mem, Bool.and_eq_false_iff] at h1 h2 h3 h4 h5 h7 h8
 refine ⟨h1, h2, fun a b => ?_, fun a b => ?_, fun a b => ?_, fun a b c => ?_, fun a b => ?_, h6⟩
 ·rcases h3 with h | h
  ·rcases h with h | h
   ·exact absurd h a
   ·exact absurd b h
  ·exact h
 ·refine Classical.byContradiction fun hc => ?_
  have := h4.2 (.inl (by simpa [List.contains_iff_mem] using hc))
  rcases this with h | h
  ·exact a h
  ·exact h b
 ·refine Classical.byContradiction fun hc => ?_
  have := h5.2 (.inl (by simpa [List.contains_iff_mem] using hc))
  rcases this with h | h
  ·exact a h
  ·exact h b
 ·rcases h7 with (h | h) | h
  ·exact b h
  ·rw [← Bool.not_eq_true, List.contains_iff_mem] at h
   exact h c
  ·exact h a
 ·rcases h8 with h | h
  ·exact a h
  ·rw [← Bool.not_eq_true, List.contains_iff_mem] at h
   exact h b
section
variable {p : List Int} {i t : Nat}
theorem scan_one {n : Nat} {sx sy : Int} : scan p true t (ray (n + 1) i sx sy) = (mvO i sx sy == some t) := by
 cases hm : mvO i sx sy with
 | none => rw [ray_none hm]; rfl
 | some q =>
  rw [ray_some hm, scan_cons]
  by_cases h : q = t
  ·subst h; simp
  ·simp [h]
theorem loop_r (hp : p.length = 64) {sx sy : Int} (hi : i < 64) (ht : t < 64) (hx : sg ((t : Int) % 8 - (i : Int) % 8) = sx) (hy : sg ((t : Int) / 8 - (i : Int) / 8) = sy) : ∀ (n j : Nat), t ∈ ray n j sx sy →
  loop (rf_Attacks_L1 p (i : Int) (t : Int)) ((j : Int) + sx + 8 * sy) = some (if scan p false t (ray n j sx sy) then .go () else .ret false)
 | 0, _, h => by cases h
 | n + 1, j, h => by
  have hsx := sg_bd ((t : Int) % 8 - (i : Int) % 8)
  have hsy := sg_bd ((t : Int) / 8 - (i : Int) / 8)
  rw [hx] at hsx
  rw [hy] at hsy
  cases hm : mvO j sx sy with
  | none => rw [ray_none hm] at h; cases h
  | some q =>
   rw [ray_some hm] at h ⊢
   have hq := mvO_bd hm
   rw [← hq.2.1, scan_cons]
   by_cases hqt : q = t
   ·subst hqt
    rw [if_pos rfl]
    refine loop_done ?_
    simp [rf_Attacks_L1]
   ·rw [if_neg hqt]
    have e0 : rf_Attacks_L1 p (i : Int) (t : Int) (q : Int) = rf_Attacks_J5 p i t q := by
     simp only [rf_Attacks_L1]
     exact if_pos (by simp; omega)
    unfold rf_Attacks_J5 at e0
    rw [asrt_pos (by omega)] at e0
    by_cases hz : geti p q = 0
    ·rw [if_neg (by simp [hz])] at e0
     unfold rf_Attacks_J6 at e0
     rw [Int.tmod_eq_emod_of_nonneg (by omega), Int.tmod_eq_emod_of_nonneg (by omega), Int.tdiv_eq_ediv_of_nonneg (by omega), Int.tdiv_eq_ediv_of_nonneg (by omega), w64_of (x := (t : Int) / 8) (by omega), w64_of (x := (i : Int) / 8) (by omega), w64_of (x := (t : Int) % 8 - (i : Int) % 8) (by omega), w64_of (x := (t : Int) / 8 - (i : Int) / 8) (by omega), sign_eq, sign_eq, Option.bind_some, Option.bind_some, hx, hy, w64_of (x := 8 * sy) (by omega), w64_of (x := sx + 8 * sy) (by omega), w64_of (by omega)] at e0
     have ih := loop_r hp hi ht hx hy n q (by
      rcases List.mem_cons.1 h with h | h
      ·exact absurd h.symm hqt
      ·exact h)
     rw [if_neg (show ¬ (geti p q ≠ 0 ∨ false = true) by simp [hz])]
     refine loop_next' e0 ?_
     rw [← ih]
     congr 1
     omega
    ·rw [if_pos (by simp [hz])] at e0
     rw [if_pos (show geti p q ≠ 0 ∨ false = true from .inl hz), loop_done e0]
     rfl
theorem attacks_r (hp : p.length = 64) (hi : i < 64) (ht : t < 64) (hx : (-6 ≤ geti p i ∧ geti p i ≤ 6) ∧ geti p i ≠ 0) : rf_Attacks_m p (i : Int) (t : Int) = some (attB p i t) := by
 have G := geo (x := (t : Int) % 8 - (i : Int) % 8) (y := (t : Int) / 8 - (i : Int) / 8) (by omega) (by omega)
 have hmv : ∀ (sx sy : Int), mvO i sx sy = some t ↔ (t : Int) % 8 - (i : Int) % 8 = sx ∧ (t : Int) / 8 - (i : Int) / 8 = sy := fun sx sy => mvO_iff ht
 have hray : ∀ s ∈ dirs, t ∈ ray 8 i s.1 s.2 ↔ (s.1 = sg ((t : Int) % 8 - (i : Int) % 8) ∧ s.2 = sg ((t : Int) / 8 - (i : Int) / 8)) ∧ (((t : Int) % 8 - (i : Int) % 8).natAbs = ((t : Int) / 8 - (i : Int) / 8).natAbs ∨ (t : Int) % 8 - (i : Int) % 8 = 0 ∨ (t : Int) / 8 - (i : Int) / 8 = 0) := fun s hs => ray_mem hi ht hs
 have hloop : ∀ n j, t ∈ ray n j (sg ((t : Int) % 8 - (i : Int) % 8)) (sg ((t : Int) / 8 - (i : Int) / 8)) → _ := loop_r hp hi ht rfl rfl
 have hbx : -7 ≤ (t : Int) % 8 - (i : Int) % 8 ∧ (t : Int) % 8 - (i : Int) % 8 ≤ 7 := by omega
 have hby : -7 ≤ (t : Int) / 8 - (i : Int) / 8 ∧ (t : Int) / 8 - (i : Int) / 8 ≤ 7 := by omega
 unfold rf_Attacks_m rf_Attacks_J1 rf_Attacks_J2 rf_Attacks_J3
 rw [asrt_pos (by omega), Int.tmod_eq_emod_of_nonneg (by omega), Int.tmod_eq_emod_of_nonneg (by omega), Int.tdiv_eq_ediv_of_nonneg (by omega), Int.tdiv_eq_ediv_of_nonneg (by omega), w64_of (x := (t : Int) / 8) (by omega), w64_of (x := (i : Int) / 8) (by omega), w64_of (x := (t : Int) % 8 - (i : Int) % 8) (by omega), w64_of (x := (t : Int) / 8 - (i : Int) / 8) (by omega)]
 generalize (t : Int) % 8 - (i : Int) % 8 = dx at *
 generalize (t : Int) / 8 - (i : Int) / 8 = dy at *
 have hsx := sg_bd dx
 have hsy := sg_bd dy
 have G6 := G.bd
 rw [size_small (x := geti p i) (by omega), size_small (x := dx) (by omega), size_small (x := dy) (by omega), w64_of (x := dx * dy) (by omega), size_small (x := dx * dy) (by omega), sign_eq, sign_eq]
 simp only [Option.bind_some]
 unfold attB
 have hk : (geti p i).natAbs = 1 ∨ (geti p i).natAbs = 2 ∨ (geti p i).natAbs = 3 ∨ (geti p i).natAbs = 4 ∨ (geti p i).natAbs = 5 ∨ (geti p i).natAbs = 6 := by omega
 have far : ∀ k : Int, (∀ s ∈ stepsL k, s ∈ dirs → ¬ t ∈ ray 8 i s.1 s.2) → stepsL k ⊆ dirs → ((stepsL k).any fun s => scan p false t (ray 8 i s.1 s.2)) = false := by
  intro k h1 h2
  rw [List.any_eq_false]
  intro s hs
  rw [scan_false (h1 s hs (h2 hs))]
  decide
 have near : ∀ k : Int, stepsL k ⊆ dirs → (sg dx, sg dy) ∈ stepsL k → (dx.natAbs = dy.natAbs ∨ dx = 0 ∨ dy = 0) → ((stepsL k).any fun s => scan p false t (ray 8 i s.1 s.2)) = scan p false t (ray 8 i (sg dx) (sg dy)) := by
  intro k h1 h2 h3
  rw [Bool.eq_iff_iff, List.any_eq_true]
  constructor
  ·rintro ⟨s, hs, h⟩
   by_cases hm : t ∈ ray 8 i s.1 s.2
   ·have := ((hray s (h1 hs)).1 hm).1
    rw [← this.1, ← this.2]
    exact h
   ·rw [scan_false hm] at h; cases h
  ·intro h
   exact ⟨_, h2, h⟩
 have d3 : stepsL 3 ⊆ dirs := by decide
 have d4 : stepsL 4 ⊆ dirs := by decide
 have d5 : stepsL 5 ⊆ dirs := by decide
 have fin : ∀ k : Int, stepsL k ⊆ dirs → (sg dx, sg dy) ∈ stepsL k → (dx.natAbs = dy.natAbs ∨ dx = 0 ∨ dy = 0) → (loop (rf_Attacks_L1 p (i : Int) (t : Int)) (w64 ((w64 ((i : Int) + sg dx)) + (w64 (8 * sg dy))))).bind rf_Attacks_K1 = some ((stepsL k).any fun s => scan p false t (ray 8 i s.1 s.2)) := by
  intro k h1 h2 h3
  rw [near k h1 h2 h3, w64_of (x := (i : Int) + sg dx) (by omega), w64_of (x := 8 * sg dy) (by omega), w64_of (by omega), hloop 8 i ((hray _ (h1 h2)).2 ⟨⟨rfl, rfl⟩, h3⟩), Option.bind_some]
  cases scan p false t (ray 8 i (sg dx) (sg dy)) <;> rfl
 have hsl : (((dx.natAbs : Nat) : Int) == ((dy.natAbs : Nat) : Int)) = decide (dx.natAbs = dy.natAbs) := by
  rw [Bool.eq_iff_iff, beq_iff_eq, decide_eq_true_eq]; omega
 have hst : ((dx == 0) || (dy == 0)) = decide (dx = 0 ∨ dy = 0) := by
  rw [Bool.eq_iff_iff, Bool.or_eq_true, beq_iff_eq, beq_iff_eq, decide_eq_true_eq]
 have hx0 : (geti p i == 0) = false := by simpa using hx.2
 have e33 : (((3 : Nat) : Int) == 3) = true := rfl
 have e34 : (((3 : Nat) : Int) == 4) = false := rfl
 have e43 : (((4 : Nat) : Int) == 3) = false := rfl
 have e44 : (((4 : Nat) : Int) == 4) = true := rfl
 have e53 : (((5 : Nat) : Int) == 3) = false := rfl
 have e54 : (((5 : Nat) : Int) == 4) = false := rfl
 have e03 : ((0 : Int) == 3) = false := rfl
 have e04 : ((0 : Int) == 4) = false := rfl
 by_cases h0 : dx = 0 ∧ dy = 0
 ·rw [if_pos (by rw [h0.1, h0.2]; rfl)]
  have hno : ∀ s ∈ dirs, ¬ t ∈ ray 8 i s.1 s.2 := by
   intro s hs hm
   have h := ((hray s hs).1 hm).1
   rw [h0.1, h0.2] at h
   have : s = (0, 0) := Prod.ext h.1 h.2
   rw [this] at hs
   exact absurd hs (by decide)
  rcases hk with h | h | h | h | h | h
  ·rw [if_pos h]
   have e1 : ¬ mvO i (-1) (geti p i) = some t := fun e => by have := (hmv _ _).1 e; omega
   have e2 : ¬ mvO i 1 (geti p i) = some t := fun e => by have := (hmv _ _).1 e; omega
   simp [e1, e2]
  ·rw [if_neg (by omega), h]
   congr 1
   symm
   rw [List.any_eq_false]
   intro s hs
   rw [show oneK ((2 : Nat) : Int) = true from rfl, scan_one]
   simp only [beq_iff_eq]
   intro e
   have := G.hop.1 ⟨s, hs, (hmv _ _).1 e⟩
   rw [h0.1, h0.2] at this
   exact absurd this (by decide)
  ·rw [if_neg (by omega), h]
   exact congrArg some (far 3 (fun s _ hd => hno s hd) d3).symm
  ·rw [if_neg (by omega), h]
   exact congrArg some (far 4 (fun s _ hd => hno s hd) d4).symm
  ·rw [if_neg (by omega), h]
   exact congrArg some (far 5 (fun s _ hd => hno s hd) d5).symm
  ·rw [if_neg (by omega), h]
   congr 1
   symm
   rw [List.any_eq_false]
   intro s hs
   rw [show oneK ((6 : Nat) : Int) = true from rfl, scan_one]
   simp only [beq_iff_eq]
   intro e
   exact (G.king.1 ⟨s, hs, (hmv _ _).1 e⟩).1 h0
 ·rw [if_neg (by
   simp only [Bool.and_eq_true, beq_iff_eq]
   exact h0)]
  rcases hk with h | h | h | h | h | h
  ·rw [if_pos (by rw [h]; rfl), if_pos h]
   congr 1
   rw [Bool.eq_iff_iff]
   simp only [Bool.and_eq_true, Bool.or_eq_true, beq_iff_eq, hmv]
   omega
  ·rw [if_neg (by rw [h]; decide), if_pos (by rw [h]; rfl), if_neg (by omega), h]
   congr 1
   rw [Bool.eq_iff_iff, List.any_eq_true]
   simp only [show oneK ((2 : Nat) : Int) = true from rfl, scan_one, beq_iff_eq, hmv]
   rw [show stepsL ((2 : Nat) : Int) = hops from rfl, G.hop]
   omega
  ·rw [if_neg (by rw [h]; decide), if_neg (by rw [h]; decide), if_neg (by rw [h]; decide), if_neg (show ¬ (geti p i).natAbs = 1 by omega), h, hsl, hst, hx0]
   by_cases a : dx.natAbs = dy.natAbs <;> by_cases b : dx = 0 ∨ dy = 0
   ·rw [decide_eq_true a, decide_eq_true b]
    simp only [Bool.not_true, Bool.not_false, Bool.or_false, Bool.and_false, if_true, if_false, Option.bind_some, Bool.false_eq_true]
    exact fin 3 d3 (G.s3 h0 a) (.inl a)
   ·rw [decide_eq_true a, decide_eq_false b]
    simp only [Bool.not_true, Bool.not_false, Bool.or_false, Bool.false_or, Bool.and_true, Bool.and_false, if_true, if_false, Option.bind_some, Bool.false_eq_true, e34]
    exact fin 3 d3 (G.s3 h0 a) (.inl a)
   ·rw [decide_eq_false a, decide_eq_true b]
    simp only [Bool.not_true, Bool.not_false, Bool.or_false, Bool.false_or, Bool.and_true, Bool.and_false, if_true, if_false, Option.bind_some, Bool.false_eq_true, e33]
    exact congrArg some (far 3 (fun s hs hd hm => by
     have q := ((hray s hd).1 hm).1
     have e : s = (sg dx, sg dy) := Prod.ext q.1 q.2
     exact G.n3 b a (e ▸ hs)) d3).symm
   ·rw [decide_eq_false a, decide_eq_false b]
    simp only [Bool.not_true, Bool.not_false, Bool.or_true, Bool.true_or, Bool.and_true, if_true, if_false, Option.bind_some, Bool.false_eq_true]
    exact congrArg some (far 3 (fun s hs hd hm => by
     rcases ((hray s hd).1 hm).2 with q | q
     ·exact a q
     ·exact b q) d3).symm
  ·rw [if_neg (by rw [h]; decide), if_neg (by rw [h]; decide), if_neg (by rw [h]; decide), if_neg (show ¬ (geti p i).natAbs = 1 by omega), h, hsl, hst, hx0]
   by_cases a : dx.natAbs = dy.natAbs <;> by_cases b : dx = 0 ∨ dy = 0
   ·rw [decide_eq_true a, decide_eq_true b]
    simp only [Bool.not_true, Bool.not_false, Bool.or_false, Bool.and_false, if_true, if_false, Option.bind_some, Bool.false_eq_true]
    exact fin 4 d4 (G.s4 h0 b) (.inl a)
   ·rw [decide_eq_true a, decide_eq_false b]
    simp only [Bool.not_true, Bool.not_false, Bool.or_false, Bool.false_or, Bool.and_true, Bool.and_false, if_true, Option.bind_some, e44]
    exact congrArg some (far 4 (fun s hs hd hm => by
     have q := ((hray s hd).1 hm).1
     have e : s = (sg dx, sg dy) := Prod.ext q.1 q.2
     exact G.n4 b (e ▸ hs)) d4).symm
   ·rw [decide_eq_false a, decide_eq_true b]
    simp only [Bool.not_true, Bool.not_false, Bool.or_false, Bool.false_or, Bool.and_true, Bool.and_false, if_true, if_false, Option.bind_some, Bool.false_eq_true, e43]
    exact fin 4 d4 (G.s4 h0 b) (.inr b)
   ·rw [decide_eq_false a, decide_eq_false b]
    simp only [Bool.not_true, Bool.not_false, Bool.or_true, Bool.true_or, Bool.and_true, if_true, if_false, Option.bind_some, Bool.false_eq_true]
    exact congrArg some (far 4 (fun s hs hd hm => by
     rcases ((hray s hd).1 hm).2 with q | q
     ·exact a q
     ·exact b q) d4).symm
  ·rw [if_neg (by rw [h]; decide), if_neg (by rw [h]; decide), if_neg (by rw [h]; decide), if_neg (show ¬ (geti p i).natAbs = 1 by omega), h, hsl, hst, hx0]
   by_cases a : dx.natAbs = dy.natAbs <;> by_cases b : dx = 0 ∨ dy = 0
   ·rw [decide_eq_true a, decide_eq_true b]
    simp only [Bool.not_true, Bool.not_false, Bool.or_false, Bool.and_false, if_true, if_false, Option.bind_some, Bool.false_eq_true]
    exact fin 5 d5 (G.dir h0 (.inl a)) (.inl a)
   ·rw [decide_eq_true a, decide_eq_false b]
    simp only [Bool.not_true, Bool.not_false, Bool.or_false, Bool.false_or, Bool.and_true, Bool.and_false, if_true, if_false, Option.bind_some, Bool.false_eq_true, e54]
    exact fin 5 d5 (G.dir h0 (.inl a)) (.inl a)
   ·rw [decide_eq_false a, decide_eq_true b]
    simp only [Bool.not_true, Bool.not_false, Bool.or_false, Bool.false_or, Bool.and_true, Bool.and_false, if_true, if_false, Option.bind_some, Bool.false_eq_true, e53]
    exact fin 5 d5 (G.dir h0 (.inr b)) (.inr b)
   ·rw [decide_eq_false a, decide_eq_false b]
    simp only [Bool.not_true, Bool.not_false, Bool.or_true, Bool.true_or, Bool.and_true, if_true, if_false, Option.bind_some, Bool.false_eq_true]
    exact congrArg some (far 5 (fun s hs hd hm => by
     rcases ((hray s hd).1 hm).2 with q | q
     ·exact a q
     ·exact b q) d5).symm
  ·rw [if_neg (by rw [h]; decide), if_neg (by rw [h]; decide), if_pos (by rw [h]; rfl), if_neg (show ¬ (geti p i).natAbs = 1 by omega), h]
   have e5 : (if decide (((dx.natAbs : Nat) : Int) ≤ 1) = true then some ((dy.natAbs : Nat) : Int) else some 0) = some (if decide (((dx.natAbs : Nat) : Int) ≤ 1) = true then ((dy.natAbs : Nat) : Int) else 0) := by split <;> rfl
   rw [e5, Option.bind_some]
   congr 1
   rw [Bool.eq_iff_iff, List.any_eq_true]
   simp only [show oneK ((6 : Nat) : Int) = true from rfl, scan_one, beq_iff_eq, hmv, Bool.and_eq_true, decide_eq_true_eq]
   rw [show stepsL ((6 : Nat) : Int) = dirs from rfl, G.king]
   constructor
   ·rintro ⟨q1, q2⟩
    rw [if_pos q1] at q2
    exact ⟨h0, by omega, by omega⟩
   ·rintro ⟨_, q1, q2⟩
    have q1' : ((dx.natAbs : Nat) : Int) ≤ 1 := by omega
    rw [if_pos q1']
    exact ⟨q1', by omega⟩
end
end Go.Proofs.Ytkpkkdpfcbnfdaa
namespace Go.Proofs.Ytkpkkdpfcbnfdaa
open Go Go.GL
def attL (p : List Int) (t : Nat) (by1 : Int) (n : Nat) : List Int := ((List.range n).filter (fun (i : Nat) => sideI (geti p i) == by1 && attB p i t)).map (fun (i : Nat) => (i : Int))
theorem attL_len (p : List Int) (t : Nat) (by1 : Int) (n : Nat) : (attL p t by1 n).length ≤ n := by
 unfold attL
 rw [List.length_map]
 refine Nat.le_trans (List.length_filter_le _ _) ?_
 rw [List.length_range]; exact Nat.le_refl _
theorem attL_succ (p : List Int) (t : Nat) (by1 : Int) (n : Nat) : attL p t by1 (n + 1) = attL p t by1 n ++ (if (sideI (geti p n) == by1 && attB p n t) = true then [(n : Int)] else []) := by
 unfold attL
 rw [List.range_succ, List.filter_append, List.map_append]
 congr 1
 cases h : (sideI (geti p n) == by1 && attB p n t) <;> simp [h]
def Small (p : List Int) : Prop := p.length = 64 ∧ ∀ b : Nat, b < 64 → -6 ≤ geti p b ∧ geti p b ≤ 6
theorem side_ne {x by1 : Int} (hb : by1 = 0 ∨ by1 = 1) (h : sideI x = by1) : x ≠ 0 := by
 intro e
 rw [e] at h
 have : sideI 0 = -1 := rfl
 omega
section
variable {p : List Int}
theorem attackers_p (hs : Small p) {t : Nat} {by1 : Int} (hb : by1 = 0 ∨ by1 = 1) : board_Attackers_m p (t : Int) by1 = some (attL p t by1 64) := by
 unfold board_Attackers_m
 have key := count_loop (step := board_Attackers_L1 p t by1) (fun (_ : Unit) (n : Nat) => (attL p t by1 n, (n : Int))) (fun _ _ => True) (fun r => r = attL p t by1 64) 64 () trivial (by
  rintro n _ hn _
  left
  refine ⟨(), ?_, trivial⟩
  have hl := attL_len p t by1 n
  have e0 : board_Attackers_L1 p t by1 (attL p t by1 n, (n : Int)) = board_Attackers_J2 p t by1 (attL p t by1 n) n := by
   simp only [board_Attackers_L1]
   exact if_pos (decide_eq_true (by rw [hs.1]; omega))
  rw [e0, attL_succ]
  unfold board_Attackers_J2
  rw [asrt_pos (by rw [hs.1]; omega), side_eq, Option.bind_some]
  by_cases h : sideI (geti p n) = by1
  ·rw [if_neg (by simp [h])]
   unfold board_Attackers_J4 board_Reach_m
   rw [Option.bind_some, reach_p hs.1 hn (by omega) ⟨hs.2 n hn, side_ne hb h⟩, Option.bind_some]
   have hbe : (sideI (geti p n) == by1) = true := beq_iff_eq.2 h
   rw [hbe, Bool.true_and]
   cases attB p n t with
   | true =>
    simp only [if_true, board_Attackers_K2, board_Attackers_J3]
    rw [w64_of (by omega)]
    rfl
   | false =>
    simp only [Bool.false_eq_true, if_false, board_Attackers_K2, board_Attackers_J3, List.append_nil]
    rw [w64_of (by omega)]
    rfl
  ·have hbe : (sideI (geti p n) == by1) = false := by simpa using h
   rw [if_pos (by simp [h]), hbe]
   simp only [Bool.false_and, Bool.false_eq_true, if_false, board_Attackers_J3, List.append_nil]
   rw [w64_of (by omega)]
   rfl) (by
  rintro _ _
  refine ⟨_, ?_, rfl⟩
  simp only [board_Attackers_L1]
  rw [if_neg (by rw [hs.1]; simp)])
 obtain ⟨r, hr, rfl⟩ := key
 have hr' : loop (board_Attackers_L1 p t by1) ([], 0) = _ := hr
 rw [hr']
 rfl
theorem attackers_r (hs : Small p) {t : Nat} (ht : t < 64) {by1 : Int} (hb : by1 = 0 ∨ by1 = 1) : rf_AttackersOf_m p (t : Int) by1 = some (attL p t by1 64) := by
 unfold rf_AttackersOf_m
 have key := count_loop (step := rf_AttackersOf_L1 p t by1) (fun (_ : Unit) (n : Nat) => (attL p t by1 n, (n : Int))) (fun _ _ => True) (fun r => r = attL p t by1 64) 64 () trivial (by
  rintro n _ hn _
  left
  refine ⟨(), ?_, trivial⟩
  have hl := attL_len p t by1 n
  have e0 : rf_AttackersOf_L1 p t by1 (attL p t by1 n, (n : Int)) = rf_AttackersOf_J2 p t by1 (attL p t by1 n) n := by
   simp only [rf_AttackersOf_L1]
   exact if_pos (decide_eq_true (by omega))
  rw [e0, attL_succ]
  unfold rf_AttackersOf_J2 rf_AttackersOf_J3
  rw [asrt_pos (by rw [hs.1]; omega), sideR_eq, Option.bind_some, w64_of (by omega)]
  by_cases h : sideI (geti p n) = by1
  ·have hbe : (sideI (geti p n) == by1) = true := beq_iff_eq.2 h
   rw [hbe, if_pos rfl, attacks_r hs.1 hn ht ⟨hs.2 n hn, side_ne hb h⟩, Option.bind_some, Bool.true_and]
   cases attB p n t with
   | true =>
    rw [if_pos rfl, if_pos rfl, asrt_pos (by unfold bigN; omega)]
    rfl
   | false =>
    simp only [Bool.false_eq_true, if_false, List.append_nil]
    rfl
  ·have hbe : (sideI (geti p n) == by1) = false := by simpa using h
   rw [hbe]
   simp only [Bool.false_and, Bool.false_eq_true, if_false, List.append_nil, Option.bind_some]
   rfl) (by
  rintro _ _
  refine ⟨_, ?_, rfl⟩
  simp only [rf_AttackersOf_L1]
  rw [if_neg (by simp)])
 obtain ⟨r, hr, rfl⟩ := key
 have hr' : loop (rf_AttackersOf_L1 p t by1) ([], 0) = _ := hr
 rw [hr']
 rfl
theorem index_p (hl : p.length ≤ 1000) (v : Int) : slices_Index_m p v = some (fidx (fun y => decide (y = v)) p) := by
 unfold slices_Index_m
 rw [search_loop (l := p) (fun y => decide (y = v)) (fun i => Fl.ret (i : Int)) (Fl.go ()) ?_ ?_ ?_]
 ·unfold fidx
  cases p.findIdx? (fun y => decide (y = v)) <;> rfl
 ·intro i x hx hp
  have hb := idx_bd hx
  simp only [slices_Index_L1, slices_Index_J2]
  rw [if_pos (by simpa using hb.2), asrt_pos hb, geti_some hx, if_pos (by rw [beq_iff_eq]; exact (of_decide_eq_true hp).symm)]
 ·intro i x hx hp
  have hb := idx_bd hx
  simp only [slices_Index_L1, slices_Index_J2]
  rw [if_pos (by simpa using hb.2), asrt_pos hb, geti_some hx, if_neg (by rw [beq_iff_eq]; exact fun e => of_decide_eq_false hp e.symm)]
  simp only [slices_Index_J3]
  rw [w64_succ (by omega)]
 ·simp only [slices_Index_L1]
  rw [if_neg (by simp)]
theorem at_r (hl : p.length ≤ 1000) (v : Int) : rf_at_m p v = some (fidx (fun y => decide (y = v)) p) := by
 unfold rf_at_m
 rw [search_loop (l := p) (fun y => decide (y = v)) (fun i => Fl.ret (i : Int)) (Fl.go ()) ?_ ?_ ?_]
 ·unfold fidx
  cases p.findIdx? (fun y => decide (y = v)) <;> rfl
 ·intro i x hx hp
  have hb := idx_bd hx
  simp only [rf_at_L1, rf_at_J2]
  rw [if_pos (by simpa using hb.2), asrt_pos hb, geti_some hx, if_pos (by rw [beq_iff_eq]; exact of_decide_eq_true hp)]
 ·intro i x hx hp
  have hb := idx_bd hx
  simp only [rf_at_L1, rf_at_J2]
  rw [if_pos (by simpa using hb.2), asrt_pos hb, geti_some hx, if_neg (by rw [beq_iff_eq]; exact of_decide_eq_false hp)]
  simp only [rf_at_J3]
  rw [w64_succ (by omega)]
 ·simp only [rf_at_L1]
  rw [if_neg (by simp)]
def kingV (side : Int) : Int := if side = 1 then -6 else 6
def inChk (p : List Int) (side : Int) : Bool := decide (0 < (attL p (fidx (fun y => decide (y = kingV side)) p).toNat (1 - side) 64).length)
theorem check_both (hs : Small p) {side : Int} (hd : side = 0 ∨ side = 1) (hk : ∃ b : Nat, b < 64 ∧ geti p b = kingV side) : board_Checked_m p side = some (inChk p side) ∧ rf_InCheck_m p side = some (inChk p side) := by
 have h0 : 0 ≤ fidx (fun y => decide (y = kingV side)) p := by
  rw [fidx_neg, List.any_eq_true]
  obtain ⟨b, hb, e⟩ := hk
  exact ⟨_, List.mem_of_getElem? (get_geti (show b < p.length by rw [hs.1]; exact hb)), by simpa using e⟩
 have hb := fidx_bd (fun y => decide (y = kingV side)) p
 rw [hs.1] at hb
 have hn : fidx (fun y => decide (y = kingV side)) p = (((fidx (fun y => decide (y = kingV side)) p).toNat : Nat) : Int) := by omega
 have hl : p.length ≤ 1000 := by rw [hs.1]; omega
 constructor
 ·unfold board_Checked_m board_KingAt_m
  rw [forward_small (by omega), Option.bind_some, show w64 (6 * (1 - 2 * side)) = kingV side by rcases hd with rfl | rfl <;> rfl, index_p hl]
  simp only [Option.bind_some]
  rw [w64_of (by omega), hn, attackers_p hs (by omega), Option.bind_some]
  unfold inChk
  congr 1
  rw [Bool.eq_iff_iff, decide_eq_true_eq, decide_eq_true_eq]
  omega
 ·unfold rf_InCheck_m rf_InCheck_J1
  have e : (if (side == 1) = true then (rf_at_m p (w64 (0 - 6))).bind fun r1 => (rf_AttackersOf_m p r1 (w64 (1 - side))).bind fun r2 => some (decide ((0 : Int) < (r2.length : Int))) else (rf_at_m p 6).bind fun r1 => (rf_AttackersOf_m p r1 (w64 (1 - side))).bind fun r2 => some (decide ((0 : Int) < (r2.length : Int)))) = (rf_at_m p (kingV side)).bind fun r1 => (rf_AttackersOf_m p r1 (w64 (1 - side))).bind fun r2 => some (decide ((0 : Int) < (r2.length : Int))) := by
   rcases hd with rfl | rfl <;> rfl
  rw [e, at_r hl]
  simp only [Option.bind_some]
  rw [w64_of (by omega), hn, attackers_r hs (by omega) (by omega), Option.bind_some]
  unfold inChk
  congr 1
  rw [Bool.eq_iff_iff, decide_eq_true_eq, decide_eq_true_eq]
  omega
def badP (x : Int) (i : Nat) : Bool := !(decide (-6 ≤ x) && decide (x ≤ 6)) || (decide (x.natAbs = 1) && (decide ((i : Int) < 8) || decide ((55 : Int) < i)))
def cntV (p : List Int) (v : Int) (n : Nat) : Nat := cntN (fun i => decide (geti p i = v)) n
theorem kind_bad {x : Int} (hx : inI x) (h : ¬ (-6 ≤ x ∧ x ≤ 6)) : ∃ k, board_Kind_m x = some k ∧ k ≠ 0 ∧ k ≠ 1 ∧ k ≠ 2 ∧ k ≠ 3 ∧ k ≠ 4 ∧ k ≠ 5 ∧ k ≠ 6 := by
 unfold board_Kind_m maxI
 unfold inI at hx
 by_cases hm : x = -9223372036854775808
 ·subst hm
  exact ⟨_, rfl, by decide⟩
 ·rw [w64_of (by omega)]
  refine ⟨_, rfl, ?_⟩
  split <;> omega
theorem loops1 (hl : p.length = 64) (hin : ∀ b : Nat, b < 64 → inI (geti p b)) :
  (loop (board_May_L1 p) ([0, 0], 0) = some (Fl.ret false) ∧ loop (rf_ChessMay_L1 p) (0, 0, 0) = some (Fl.ret false)) ∨
  ((Small p ∧ ∀ i : Nat, i < 64 → badP (geti p i) i = false) ∧ loop (board_May_L1 p) ([0, 0], 0) = some (Fl.go [(cntV p 6 64 : Int), (cntV p (-6) 64 : Int)]) ∧ loop (rf_ChessMay_L1 p) (0, 0, 0) = some (Fl.go ((cntV p 6 64 : Int), (cntV p (-6) 64 : Int)))) := by
 have turn : ∀ n : Nat, n < 64 →
   board_May_L1 p ([(cntV p 6 n : Int), (cntV p (-6) n : Int)], (n : Int)) = some (if badP (geti p n) n then .done (.ret false) else .next ([(cntV p 6 (n + 1) : Int), (cntV p (-6) (n + 1) : Int)], ((n + 1 : Nat) : Int))) ∧
   rf_ChessMay_L1 p ((cntV p 6 n : Int), (cntV p (-6) n : Int), (n : Int)) = some (if badP (geti p n) n then .done (.ret false) else .next ((cntV p 6 (n + 1) : Int), (cntV p (-6) (n + 1) : Int), ((n + 1 : Nat) : Int))) := by
  intro n hn
  have c1 : cntV p 6 n ≤ n := cntN_le _ _
  have c2 : cntV p (-6) n ≤ n := cntN_le _ _
  have s1 : cntV p 6 (n + 1) = cntV p 6 n + if geti p n = 6 then 1 else 0 := by simp [cntV, cntN]
  have s2 : cntV p (-6) (n + 1) = cntV p (-6) n + if geti p n = -6 then 1 else 0 := by simp [cntV, cntN]
  constructor
  ·simp only [board_May_L1]
   rw [if_pos (decide_eq_true (by rw [hl]; omega))]
   unfold board_May_J3 board_May_J5 board_May_J4
   rw [asrt_pos (by rw [hl]; omega), w64_of (x := (n : Int) + 1) (by omega)]
   by_cases hx : -6 ≤ geti p n ∧ geti p n ≤ 6
   ·rw [kind_small hx, Option.bind_some, side_eq]
    unfold badP
    have h7 : geti p n = -6 ∨ geti p n = -5 ∨ geti p n = -4 ∨ geti p n = -3 ∨ geti p n = -2 ∨ geti p n = -1 ∨ geti p n = 0 ∨ geti p n = 1 ∨ geti p n = 2 ∨ geti p n = 3 ∨ geti p n = 4 ∨ geti p n = 5 ∨ geti p n = 6 := by omega
    have w1 : w64 ((cntV p 6 n : Int) + 1) = (cntV p 6 n : Int) + 1 := w64_of (by omega)
    have w2 : w64 ((cntV p (-6) n : Int) + 1) = (cntV p (-6) n : Int) + 1 := w64_of (by omega)
    rcases h7 with h | h | h | h | h | h | h | h | h | h | h | h | h <;> rw [h] at s1 s2 ⊢ <;> simp at s1 s2 <;> rw [s1, s2]
    all_goals simp [sideI, geti, w1, w2, asrt]
    all_goals
     by_cases q : (n : Int) < 8 ∨ (55 : Int) < n
     ·rw [if_pos (show (n : Int) < 8 ∨ (56 : Int) ≤ n by omega), if_pos q]
     ·rw [if_neg (show ¬ ((n : Int) < 8 ∨ (56 : Int) ≤ n) by omega), if_neg q]
   ·obtain ⟨k, hk, q0, q1, q2, q3, q4, q5, q6⟩ := kind_bad (hin n hn) hx
    have hbad : badP (geti p n) n = true := by
     unfold badP
     have : (decide (-6 ≤ geti p n) && decide (geti p n ≤ 6)) = false := by
      rw [Bool.eq_false_iff]
      intro h
      simp only [Bool.and_eq_true, decide_eq_true_eq] at h
      exact hx h
     rw [this]; rfl
    rw [hk, Option.bind_some, hbad]
    simp [q0, q1, q2, q3, q4, q5, q6]
  ·simp only [rf_ChessMay_L1]
   rw [if_pos (decide_eq_true (by omega))]
   unfold rf_ChessMay_J3 rf_ChessMay_J5 rf_ChessMay_J6 rf_ChessMay_J4 rf_within_m
   rw [asrt_pos (by rw [hl]; omega), w64_of (x := (n : Int) + 1) (by omega), w64_of (x := (cntV p 6 n : Int) + 1) (by omega), w64_of (x := (cntV p (-6) n : Int) + 1) (by omega), Option.bind_some]
   by_cases hx : -6 ≤ geti p n ∧ geti p n ≤ 6
   ·rw [decide_eq_true hx.1, decide_eq_true hx.2, size_small (by omega)]
    unfold badP
    rw [decide_eq_true hx.1, decide_eq_true hx.2, s1, s2]
    have e1 : (((geti p n).natAbs : Int) == 1) = decide ((geti p n).natAbs = 1) := by
     rw [Bool.eq_iff_iff, beq_iff_eq, decide_eq_true_eq]; omega
    simp only [Bool.and_self, Bool.not_true, Bool.not_false, if_true, Option.bind_some, Bool.false_or, e1]
    by_cases hb : (decide ((geti p n).natAbs = 1) && (decide ((n : Int) < 8) || decide ((55 : Int) < n))) = true
    ·rw [if_pos hb, if_pos hb]
    ·rw [if_neg hb, if_neg hb]
     by_cases h6 : geti p n = 6
     ·have hm6 : ¬ geti p n = -6 := by omega
      rw [h6]
      simp
     ·by_cases hm6 : geti p n = -6
      ·rw [hm6]
       simp
      ·simp [h6, hm6]
   ·have hf : (decide (-6 ≤ geti p n) && decide (geti p n ≤ 6)) = false := by
     rw [Bool.eq_false_iff]
     intro h
     simp only [Bool.and_eq_true, decide_eq_true_eq] at h
     exact hx h
    unfold badP
    rw [hf]
    simp
 have least : ∀ k : Nat, (∀ i : Nat, i < k → badP (geti p i) i = false) ∨ ∃ b : Nat, b < k ∧ badP (geti p b) b = true ∧ ∀ i : Nat, i < b → badP (geti p i) i = false := by
  intro k
  induction k with
  | zero => exact .inl fun i hi => by omega
  | succ k ih =>
   rcases ih with h | ⟨b, h1, h2⟩
   ·cases hb : badP (geti p k) k with
    | true => exact .inr ⟨k, by omega, hb, h⟩
    | false =>
     refine .inl fun i hi => ?_
     by_cases e : i = k
     ·subst e; exact hb
     ·exact h i (by omega)
   ·exact .inr ⟨b, by omega, h2⟩
 rcases least 64 with h | ⟨b, hb, h1, h2⟩
 ·right
  refine ⟨⟨⟨hl, fun b hb => ?_⟩, h⟩, ?_, ?_⟩
  ·have := h b hb
   unfold badP at this
   simp only [Bool.or_eq_false_iff, Bool.not_eq_false', Bool.and_eq_true, decide_eq_true_eq] at this
   exact this.1
  ·refine loop_from (fun n : Nat => ([(cntV p 6 n : Int), (cntV p (-6) n : Int)], (n : Int))) 64 rfl (fun i hi => ?_) ?_
   ·rw [(turn i hi).1, h i hi]; rfl
   ·simp only [board_May_L1]
    rw [if_neg (by rw [hl]; simp)]
  ·refine loop_from (fun n : Nat => ((cntV p 6 n : Int), (cntV p (-6) n : Int), (n : Int))) 64 rfl (fun i hi => ?_) ?_
   ·rw [(turn i hi).2, h i hi]; rfl
   ·simp only [rf_ChessMay_L1]
    rw [if_neg (by simp)]
 ·left
  constructor
  ·refine loop_from (fun n : Nat => ([(cntV p 6 n : Int), (cntV p (-6) n : Int)], (n : Int))) b rfl (fun i hi => ?_) ?_
   ·rw [(turn i (by omega)).1, h2 i hi]; rfl
   ·rw [(turn b hb).1, h1]; rfl
  ·refine loop_from (fun n : Nat => ((cntV p 6 n : Int), (cntV p (-6) n : Int), (n : Int))) b rfl (fun i hi => ?_) ?_
   ·rw [(turn i (by omega)).2, h2 i hi]; rfl
   ·rw [(turn b hb).2, h1]; rfl
end
end Go.Proofs.Ytkpkkdpfcbnfdaa
namespace Go.Proofs.Ytkpkkdpfcbnfdaa
open Go Go.GL
section
variable {p : List Int}
def castC (p : List Int) (p3 n k r f : Int) : Bool := ((bAnd (shrK .i64 p3 n) 1) == 1) && ((geti p k != 6 * f) || (geti p r != 4 * f))
theorem cast0_p (hl : p.length = 64) (p3 : Int) : board_May_L2 p p3 0 = some (if castC p p3 0 4 7 1 = true then .done (.ret false) else .next 1) := by
 simp only [board_May_L2]
 rw [if_pos (by decide)]
 unfold board_May_J8 board_May_J9 castC
 rw [show board_Right_m 0 = some (4, 7) by decide +kernel, show board_forward_m (shrK .i64 0 1) = some 1 by decide +kernel]
 simp only [Option.bind_some]
 rw [asrt_pos (by decide), asrt_pos (fun _ => by omega), asrt_pos (fun _ _ => by omega), show w64 (6 * 1) = 6 * 1 by decide, show w64 (4 * 1) = 4 * 1 by decide, show w64 (0 + 1) = 1 by decide]
 split <;> rfl
theorem cast0_r (hl : p.length = 64) (p3 : Int) : rf_ChessMay_L2 p p3 0 = some (if castC p p3 0 4 7 1 = true then .done (.ret false) else .next 1) := by
 simp only [rf_ChessMay_L2]
 rw [if_pos (by decide)]
 unfold rf_ChessMay_J9
 rw [if_neg (by decide)]
 unfold rf_ChessMay_J11 rf_ChessMay_J10 castC
 rw [show geti ([4, 4, 60, 60] : List Int) 0 = 4 by decide, show geti ([7, 0, 63, 56] : List Int) 0 = 7 by decide]
 rw [asrt_pos (by decide), asrt_pos (fun _ => by omega), asrt_pos (fun _ => by omega), asrt_pos (fun _ _ => by omega), asrt_pos (fun _ _ => by omega), show w64 (1 * 6) = 6 * 1 by decide, show w64 (1 * 4) = 4 * 1 by decide, show w64 (0 + 1) = 1 by decide]
 split <;> rfl
theorem cast1_p (hl : p.length = 64) (p3 : Int) : board_May_L2 p p3 1 = some (if castC p p3 1 4 0 1 = true then .done (.ret false) else .next 2) := by
 simp only [board_May_L2]
 rw [if_pos (by decide)]
 unfold board_May_J8 board_May_J9 castC
 rw [show board_Right_m 1 = some (4, 0) by decide +kernel, show board_forward_m (shrK .i64 1 1) = some 1 by decide +kernel]
 simp only [Option.bind_some]
 rw [asrt_pos (by decide), asrt_pos (fun _ => by omega), asrt_pos (fun _ _ => by omega), show w64 (6 * 1) = 6 * 1 by decide, show w64 (4 * 1) = 4 * 1 by decide, show w64 (1 + 1) = 2 by decide]
 split <;> rfl
theorem cast1_r (hl : p.length = 64) (p3 : Int) : rf_ChessMay_L2 p p3 1 = some (if castC p p3 1 4 0 1 = true then .done (.ret false) else .next 2) := by
 simp only [rf_ChessMay_L2]
 rw [if_pos (by decide)]
 unfold rf_ChessMay_J9
 rw [if_neg (by decide)]
 unfold rf_ChessMay_J11 rf_ChessMay_J10 castC
 rw [show geti ([4, 4, 60, 60] : List Int) 1 = 4 by decide, show geti ([7, 0, 63, 56] : List Int) 1 = 0 by decide]
 rw [asrt_pos (by decide), asrt_pos (fun _ => by omega), asrt_pos (fun _ => by omega), asrt_pos (fun _ _ => by omega), asrt_pos (fun _ _ => by omega), show w64 (1 * 6) = 6 * 1 by decide, show w64 (1 * 4) = 4 * 1 by decide, show w64 (1 + 1) = 2 by decide]
 split <;> rfl
theorem cast2_p (hl : p.length = 64) (p3 : Int) : board_May_L2 p p3 2 = some (if castC p p3 2 60 63 (-1) = true then .done (.ret false) else .next 3) := by
 simp only [board_May_L2]
 rw [if_pos (by decide)]
 unfold board_May_J8 board_May_J9 castC
 rw [show board_Right_m 2 = some (60, 63) by decide +kernel, show board_forward_m (shrK .i64 2 1) = some (-1) by decide +kernel]
 simp only [Option.bind_some]
 rw [asrt_pos (by decide), asrt_pos (fun _ => by omega), asrt_pos (fun _ _ => by omega), show w64 (6 * (-1)) = 6 * (-1) by decide, show w64 (4 * (-1)) = 4 * (-1) by decide, show w64 (2 + 1) = 3 by decide]
 split <;> rfl
theorem cast2_r (hl : p.length = 64) (p3 : Int) : rf_ChessMay_L2 p p3 2 = some (if castC p p3 2 60 63 (-1) = true then .done (.ret false) else .next 3) := by
 simp only [rf_ChessMay_L2]
 rw [if_pos (by decide)]
 unfold rf_ChessMay_J9
 rw [if_pos (by decide)]
 unfold rf_ChessMay_J11 rf_ChessMay_J10 castC
 rw [show geti ([4, 4, 60, 60] : List Int) 2 = 60 by decide, show geti ([7, 0, 63, 56] : List Int) 2 = 63 by decide]
 rw [asrt_pos (by decide), asrt_pos (fun _ => by omega), asrt_pos (fun _ => by omega), asrt_pos (fun _ _ => by omega), asrt_pos (fun _ _ => by omega), show w64 ((-1) * 6) = 6 * (-1) by decide, show w64 ((-1) * 4) = 4 * (-1) by decide, show w64 (2 + 1) = 3 by decide]
 split <;> rfl
theorem cast3_p (hl : p.length = 64) (p3 : Int) : board_May_L2 p p3 3 = some (if castC p p3 3 60 56 (-1) = true then .done (.ret false) else .next 4) := by
 simp only [board_May_L2]
 rw [if_pos (by decide)]
 unfold board_May_J8 board_May_J9 castC
 rw [show board_Right_m 3 = some (60, 56) by decide +kernel, show board_forward_m (shrK .i64 3 1) = some (-1) by decide +kernel]
 simp only [Option.bind_some]
 rw [asrt_pos (by decide), asrt_pos (fun _ => by omega), asrt_pos (fun _ _ => by omega), show w64 (6 * (-1)) = 6 * (-1) by decide, show w64 (4 * (-1)) = 4 * (-1) by decide, show w64 (3 + 1) = 4 by decide]
 split <;> rfl
theorem cast3_r (hl : p.length = 64) (p3 : Int) : rf_ChessMay_L2 p p3 3 = some (if castC p p3 3 60 56 (-1) = true then .done (.ret false) else .next 4) := by
 simp only [rf_ChessMay_L2]
 rw [if_pos (by decide)]
 unfold rf_ChessMay_J9
 rw [if_pos (by decide)]
 unfold rf_ChessMay_J11 rf_ChessMay_J10 castC
 rw [show geti ([4, 4, 60, 60] : List Int) 3 = 60 by decide, show geti ([7, 0, 63, 56] : List Int) 3 = 56 by decide]
 rw [asrt_pos (by decide), asrt_pos (fun _ => by omega), asrt_pos (fun _ => by omega), asrt_pos (fun _ _ => by omega), asrt_pos (fun _ _ => by omega), show w64 ((-1) * 6) = 6 * (-1) by decide, show w64 ((-1) * 4) = 4 * (-1) by decide, show w64 (3 + 1) = 4 by decide]
 split <;> rfl
theorem cast_both (hl : p.length = 64) (p3 : Int) : ∃ b : Bool, loop (board_May_L2 p p3) 0 = some (if b then Fl.ret false else Fl.go ()) ∧ loop (rf_ChessMay_L2 p p3) 0 = some (if b then Fl.ret false else Fl.go ()) := by
 have e4 : board_May_L2 p p3 4 = some (.done (.go ())) := by simp [board_May_L2]
 have f4 : rf_ChessMay_L2 p p3 4 = some (.done (.go ())) := by simp [rf_ChessMay_L2]
 have e0 := cast0_p hl p3
 have e1 := cast1_p hl p3
 have e2 := cast2_p hl p3
 have e3 := cast3_p hl p3
 have f0 := cast0_r hl p3
 have f1 := cast1_r hl p3
 have f2 := cast2_r hl p3
 have f3 := cast3_r hl p3
 by_cases c0 : castC p p3 0 4 7 1 = true
 ·rw [if_pos c0] at e0 f0
  exact ⟨true, loop_done e0, loop_done f0⟩
 rw [if_neg c0] at e0 f0
 by_cases c1 : castC p p3 1 4 0 1 = true
 ·rw [if_pos c1] at e1 f1
  exact ⟨true, loop_next' e0 (loop_done e1), loop_next' f0 (loop_done f1)⟩
 rw [if_neg c1] at e1 f1
 by_cases c2 : castC p p3 2 60 63 (-1) = true
 ·rw [if_pos c2] at e2 f2
  exact ⟨true, loop_next' e0 (loop_next' e1 (loop_done e2)), loop_next' f0 (loop_next' f1 (loop_done f2))⟩
 rw [if_neg c2] at e2 f2
 by_cases c3 : castC p p3 3 60 56 (-1) = true
 ·rw [if_pos c3] at e3 f3
  exact ⟨true, loop_next' e0 (loop_next' e1 (loop_next' e2 (loop_done e3))), loop_next' f0 (loop_next' f1 (loop_next' f2 (loop_done f3)))⟩
 rw [if_neg c3] at e3 f3
 exact ⟨false, loop_next' e0 (loop_next' e1 (loop_next' e2 (loop_next' e3 (loop_done e4)))), loop_next' f0 (loop_next' f1 (loop_next' f2 (loop_next' f3 (loop_done f4))))⟩
theorem rank_b (x : Int) (c : Nat) (hc : c ≤ 7) : ((decide ((0 : Int) ≤ x) && decide (x < 64)) && (shrK .i64 x 3 == (c : Int))) = (decide (8 * (c : Int) ≤ x) && decide (x ≤ 8 * (c : Int) + 7)) := by
 by_cases h : 0 ≤ x ∧ x < 64
 ·have e : shrK .i64 x 3 = ((x.toNat / 2 ^ 3 : Nat) : Int) := by
   rw [← shr_nat x.toNat 3 (by decide)]
   congr 1
   omega
  rw [decide_eq_true h.1, decide_eq_true h.2, e, Bool.eq_iff_iff]
  simp only [Bool.and_self, Bool.true_and, beq_iff_eq, Bool.and_eq_true, decide_eq_true_eq]
  omega
 ·have h1 : (decide ((0 : Int) ≤ x) && decide (x < 64)) = false := by
   rw [Bool.eq_false_iff]
   intro q
   simp only [Bool.and_eq_true, decide_eq_true_eq] at q
   exact h q
  have h2 : (decide (8 * (c : Int) ≤ x) && decide (x ≤ 8 * (c : Int) + 7)) = false := by
   rw [Bool.eq_false_iff]
   intro q
   simp only [Bool.and_eq_true, decide_eq_true_eq] at q
   omega
  rw [h1, h2]; rfl
theorem pass_both (hl : p.length = 64) {p2 : Int} (h2 : p2 = 0 ∨ p2 = 1) (p3 p4 p5 p6 : Int) : ∃ b, board_passant_m p p2 p3 p4 p5 p6 = some b ∧ rf_ChessMay_J12 p p2 p4 = some b := by
 unfold board_passant_m rf_ChessMay_J12 rf_ChessMay_J13 rf_within_m
 rcases h2 with rfl | rfl
 ·rw [if_pos (by decide), forward_small (by decide), show (1 - 2 * (0 : Int)) = 1 from rfl]
  simp only [Option.bind_some]
  rw [show w64 (5 - w64 (3 * 0)) = ((5 : Nat) : Int) by decide, rank_b p4 5 (by decide), show w64 (8 * 1) = 8 by decide, show w64 (w64 (0 - 1) * 1) = -1 by decide, show (8 * ((5 : Nat) : Int)) = 40 from rfl, show ((40 : Int) + 7) = 47 from rfl]
  by_cases hb : (decide ((40 : Int) ≤ p4) && decide (p4 ≤ 47)) = true
  ·have hb' := hb
   rw [Bool.and_eq_true, decide_eq_true_eq, decide_eq_true_eq] at hb'
   rw [w64_of (x := p4 - 8) (by omega), w64_of (x := p4 + 8) (by omega)]
   repeat rw [asrt_pos (fun _ => by omega)]
   exact ⟨_, rfl, rfl⟩
  ·rw [Bool.not_eq_true] at hb
   rw [hb]
   simp [asrt]
 ·rw [if_neg (by decide), forward_small (by decide), show (1 - 2 * (1 : Int)) = -1 from rfl]
  simp only [Option.bind_some]
  rw [show w64 (5 - w64 (3 * 1)) = ((2 : Nat) : Int) by decide, rank_b p4 2 (by decide), show w64 (8 * -1) = -8 by decide, show w64 (w64 (0 - -1) * 1) = 1 by decide, show (8 * ((2 : Nat) : Int)) = 16 from rfl, show ((16 : Int) + 7) = 23 from rfl]
  by_cases hb : (decide ((16 : Int) ≤ p4) && decide (p4 ≤ 23)) = true
  ·have hb' := hb
   rw [Bool.and_eq_true, decide_eq_true_eq, decide_eq_true_eq] at hb'
   rw [w64_of (x := p4 - -8) (by omega), w64_of (x := p4 + -8) (by omega), w64_of (x := p4 - 8) (by omega), w64_of (x := p4 + 8) (by omega), show p4 - -8 = p4 + 8 by omega, show p4 + -8 = p4 - 8 by omega]
   repeat rw [asrt_pos (fun _ => by omega)]
   exact ⟨_, rfl, rfl⟩
  ·rw [Bool.not_eq_true] at hb
   rw [hb]
   simp [asrt]
theorem cnt_pos {q : Nat → Bool} : ∀ n, cntN q n ≠ 0 → ∃ i, i < n ∧ q i = true
 | 0, h => absurd rfl h
 | n + 1, h => by
  simp only [cntN] at h
  by_cases hq : q n = true
  ·exact ⟨n, by omega, hq⟩
  ·rw [if_neg hq] at h
   obtain ⟨i, h1, h2⟩ := cnt_pos n h
   exact ⟨i, by omega, h2⟩
structure Pos (p : List Int) (p2 : Int) : Prop where
 small : Small p
 turn : p2 = 0 ∨ p2 = 1
 w : ∃ b : Nat, b < 64 ∧ geti p b = 6
 b : ∃ b : Nat, b < 64 ∧ geti p b = -6
theorem Pos.king {p2 : Int} (h : Pos p p2) (side : Int) : ∃ b : Nat, b < 64 ∧ geti p b = kingV side := by
 unfold kingV
 split
 ·exact h.b
 ·exact h.w
theorem may_both (hin : ∀ y ∈ p, inI y) (p2 p3 p4 p5 p6 : Int) : ∃ b, board_May_m p p2 p3 p4 p5 p6 = some b ∧ rf_ChessMay_m p p2 p3 p4 p5 p6 = some b ∧ (b = true → Pos p p2) := by
 by_cases hd : (p.length : Int) = 64 ∧ (0 ≤ p2 ∧ p2 ≤ 1) ∧ (0 ≤ p3 ∧ p3 ≤ 15) ∧ (0 ≤ p5 ∧ p5 ≤ 999) ∧ (1 ≤ p6 ∧ p6 ≤ 999)
 ·obtain ⟨h1, h2, h3, h4, h5⟩ := hd
  have hl : p.length = 64 := by omega
  have ep : board_May_m p p2 p3 p4 p5 p6 = board_May_J1 p p2 p3 p4 p5 p6 := by
   unfold board_May_m
   exact if_neg (by simp; omega)
  have er : rf_ChessMay_m p p2 p3 p4 p5 p6 = rf_ChessMay_J1 p p2 p3 p4 := by
   unfold rf_ChessMay_m rf_within_m
   rw [h1, decide_eq_true h2.1, decide_eq_true h2.2, decide_eq_true h3.1, decide_eq_true h3.2, decide_eq_true h4.1, decide_eq_true h4.2, decide_eq_true h5.1, decide_eq_true h5.2]
   rfl
  rw [ep, er]
  unfold board_May_J1 rf_ChessMay_J1
  rw [show List.replicate 2 (0 : Int) = [0, 0] from rfl]
  rcases loops1 hl (fun b hb => hin _ (List.mem_of_getElem? (get_geti (by omega)))) with ⟨q1, q2⟩ | ⟨⟨hs, _⟩, q1, q2⟩
  ·rw [q1, q2]
   exact ⟨false, rfl, rfl, fun h => by cases h⟩
  ·rw [q1, q2, Option.bind_some, Option.bind_some]
   simp only [board_May_K1, rf_ChessMay_K1]
   unfold board_May_J2 rf_ChessMay_J2
   have g0 : ∀ a b : Int, geti [a, b] 0 = a ∧ geti [a, b] 1 = b := fun a b => ⟨rfl, rfl⟩
   rw [(g0 _ _).1, (g0 _ _).2, (g0 _ _).1, (g0 _ _).2]
   by_cases hk : cntV p 6 64 = 1 ∧ cntV p (-6) 64 = 1
   ·rw [hk.1, hk.2]
    have hp : Pos p p2 := by
     refine ⟨hs, by omega, ?_, ?_⟩
     ·obtain ⟨i, a, b⟩ := cnt_pos (q := fun i => decide (geti p i = 6)) 64 (by unfold cntV at hk; omega)
      exact ⟨i, a, of_decide_eq_true b⟩
     ·obtain ⟨i, a, b⟩ := cnt_pos (q := fun i => decide (geti p i = -6)) 64 (by unfold cntV at hk; omega)
      exact ⟨i, a, of_decide_eq_true b⟩
    have hck := check_both hs (side := 1 - p2) (by have := hp.turn; omega) (hp.king _)
    rw [w64_of (by omega), hck.1, hck.2]
    cases hc : inChk p (1 - p2) with
    | true => exact ⟨false, rfl, rfl, fun h => by cases h⟩
    | false =>
     have s1 : board_May_J6 p p2 p3 p4 p5 p6 = _ := rfl
     obtain ⟨b, c1, c2⟩ := cast_both hl p3
     have goalp : ((if (!(!((((1 : Nat) : Int) == 1) && (((1 : Nat) : Int) == 1)))) = true then some false else some false : Option Bool).bind fun r3 => if ((!((((1 : Nat) : Int) == 1) && (((1 : Nat) : Int) == 1))) || r3) = true then some false else board_May_J6 p p2 p3 p4 p5 p6) = board_May_J6 p p2 p3 p4 p5 p6 := rfl
     have goalr : ((if (!((((1 : Nat) : Int) != 1) || (((1 : Nat) : Int) != 1))) = true then some false else some false : Option Bool).bind fun r7 => if ((((1 : Nat) : Int) != 1) || (((1 : Nat) : Int) != 1) || r7) = true then some false else rf_ChessMay_J7 p p2 p3 p4) = rf_ChessMay_J7 p p2 p3 p4 := rfl
     rw [goalp, goalr]
     unfold board_May_J6 rf_ChessMay_J7
     rw [c1, c2]
     cases b with
     | true => exact ⟨false, rfl, rfl, fun h => by cases h⟩
     | false =>
      simp only [Bool.false_eq_true, if_false, Option.bind_some, board_May_K2, rf_ChessMay_K2]
      unfold board_May_J7 rf_ChessMay_J8
      by_cases h9 : p4 = -1
      ·rw [h9]
       exact ⟨true, rfl, rfl, fun _ => hp⟩
      ·obtain ⟨b, d1, d2⟩ := pass_both hl hp.turn p3 p4 p5 p6
       have e9 : (p4 == -1) = false := by simpa using h9
       rw [e9, d1]
       simp only [Bool.not_false, if_true, Bool.false_eq_true, if_false, Option.bind_some, Bool.false_or]
       rw [d2]
       exact ⟨b, rfl, rfl, fun _ => hp⟩
   ·have hw : ((((cntV p 6 64 : Nat) : Int) == 1) && (((cntV p (-6) 64 : Nat) : Int) == 1)) = false := by
     rw [Bool.eq_false_iff]
     intro q
     simp only [Bool.and_eq_true, beq_iff_eq] at q
     omega
    have hw2 : ((((cntV p 6 64 : Nat) : Int) != 1) || (((cntV p (-6) 64 : Nat) : Int) != 1)) = true := by
     simp only [Bool.or_eq_true, bne_iff_ne]
     omega
    rw [hw, hw2]
    exact ⟨false, rfl, rfl, fun h => by cases h⟩
 ·refine ⟨false, ?_, ?_, fun h => by cases h⟩
  ·unfold board_May_m
   refine if_pos ?_
   simp only [Bool.or_eq_true, bne_iff_ne, decide_eq_true_eq]
   omega
  ·unfold rf_ChessMay_m rf_within_m
   have hb : (((((!((p.length : Int) != 64)) && (decide ((0 : Int) ≤ p2) && decide (p2 ≤ 1))) && (decide ((0 : Int) ≤ p3) && decide (p3 ≤ 15))) && (decide ((0 : Int) ≤ p5) && decide (p5 ≤ 999))) && (decide ((1 : Int) ≤ p6) && decide (p6 ≤ 999))) = false := by
    rw [Bool.eq_false_iff]
    intro q
    simp only [Bool.and_eq_true, decide_eq_true_eq, Bool.not_eq_true', bne_eq_false_iff_eq] at q
    exact hd ⟨q.1.1.1.1, q.1.1.1.2, q.1.1.2, q.1.2, q.2⟩
   generalize ((p.length : Int) != 64) = a0 at hb ⊢
   generalize (decide ((0 : Int) ≤ p2) && decide (p2 ≤ 1)) = a1 at hb ⊢
   generalize (decide ((0 : Int) ≤ p3) && decide (p3 ≤ 15)) = a2 at hb ⊢
   generalize (decide ((0 : Int) ≤ p5) && decide (p5 ≤ 999)) = a3 at hb ⊢
   generalize (decide ((1 : Int) ≤ p6) && decide (p6 ≤ 999)) = a4 at hb ⊢
   cases a0 <;> cases a1 <;> cases a2 <;> cases a3 <;> cases a4 <;> first | rfl | cases hb
end
end Go.Proofs.Ytkpkkdpfcbnfdaa
