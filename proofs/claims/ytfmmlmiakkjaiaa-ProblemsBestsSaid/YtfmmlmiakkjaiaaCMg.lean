import Derived.Test.YtfmmlmiakkjaiaaCMf
namespace Go.Proofs.Ytfmmlmiakkjaiaa
open Go Go.GL Go.RowKit
section
variable {p : List Int} {t c e h f : Int} {a b : Nat} {k : Int}
def addS (p : List Int) (t e : Int) (l ms : List Mv) : List Mv := l ++ ms.filter (safeB p t e)
theorem addS_len (p : List Int) (t e : Int) (l ms : List Mv) : (addS p t e l ms).length ≤ l.length + ms.length := by
 unfold addS
 rw [List.length_append]
 have := List.length_filter_le (safeB p t e) ms
 omega
theorem addS_app (p : List Int) (t e : Int) (l ms ns : List Mv) : addS p t e (addS p t e l ms) ns = addS p t e l (ms ++ ns) := by
 unfold addS
 rw [List.filter_append, List.append_assoc]
theorem addS_nil (p : List Int) (t e : Int) (l : List Mv) : addS p t e l [] = l := by simp [addS]
theorem addS_one (p : List Int) (t e : Int) (l : List Mv) (m : Mv) : addS p t e l [m] = if safeB p t e m = true then l ++ [m] else l := by
 unfold addS
 by_cases h : safeB p t e m = true
 ·rw [if_pos h]; simp [h]
 ·rw [if_neg h]; simp [h]
theorem add_p (I : Inv p t c e h f) (m : PL p t c e a b k) {l : List Mv} (hl : l.length ≤ 1000000) : board_Moves_1_m a b k p t c e h f l = some (true, addS p t e l [mv a b k]) := by
 unfold board_Moves_1_m
 rw [after_p I m, Option.bind_some]
 have hs := next_sm I m
 have hkg := next_kg I m t I.tt
 rw [(check_both hs I.tt (by obtain ⟨k, h1, h2⟩ := hkg; exact ⟨k, h1, (h2 k h1).2 rfl⟩)).1, Option.bind_some]
 unfold board_Moves_1_J2 board_Moves_1_J1
 rw [addS_one]
 have hse : safeB p t e (mv a b k) = !inChk (aft p t e a b k) t := by unfold safeB mv; simp only [Int.toNat_natCast]
 rw [hse]
 cases inChk (aft p t e a b k) t with
 | true => rfl
 | false =>
  simp only [Bool.not_false, if_true]
  rw [asrt_pos (by unfold bigK; omega)]
  rfl
theorem crown_p (I : Inv p t c e h f) (m : ∀ k, Into b k → PL p t c e a b k) {l : List Mv} (hl : l.length ≤ 900000) : board_crown_m a b p t c e h f l = some (true, addS p t e l ((intoL b).map (mv a b))) := by
 unfold board_crown_m
 by_cases hb : 8 ≤ b ∧ b < 56
 ·rw [if_pos (by simp only [Bool.and_eq_true, decide_eq_true_eq]; omega), add_p I (m 0 (by unfold Into; rw [if_pos hb])) (by omega), Option.bind_some]
  unfold intoL
  rw [if_pos hb]
  rfl
 ·rw [if_neg (by simp only [Bool.and_eq_true, decide_eq_true_eq]; omega)]
  have hi : intoL b = [2, 3, 4, 5] := by unfold intoL; rw [if_neg hb]
  rw [hi]
  unfold board_crown_J1
  have step : ∀ (l : List Mv) (k : Int), l.length ≤ 999999 → 2 ≤ k → k ≤ 5 → board_crown_L1 a b p t c e h f (l, k) = some (.next (addS p t e l [mv a b k], k + 1)) := by
   intro l k hl hk hk5
   simp only [board_crown_L1]
   rw [if_pos (decide_eq_true hk5)]
   unfold board_crown_J3 board_crown_J4
   rw [add_p I (m k (by unfold Into; rw [if_neg hb]; exact ⟨hk, hk5⟩)) (by omega), Option.bind_some]
   rw [w64_of (by omega)]
   rfl
  have l1 := addS_len p t e l [mv a b 2]
  have l2 := addS_len p t e (addS p t e l [mv a b 2]) [mv a b 3]
  have l3 := addS_len p t e (addS p t e (addS p t e l [mv a b 2]) [mv a b 3]) [mv a b 4]
  simp only [List.length_singleton] at l1 l2 l3
  have s1 := step l 2 (by omega) (by omega) (by omega)
  have s2 := step _ 3 (show (addS p t e l [mv a b 2]).length ≤ 999999 by omega) (by omega) (by omega)
  have s3 := step _ 4 (show (addS p t e (addS p t e l [mv a b 2]) [mv a b 3]).length ≤ 999999 by omega) (by omega) (by omega)
  have s4 := step _ 5 (show (addS p t e (addS p t e (addS p t e l [mv a b 2]) [mv a b 3]) [mv a b 4]).length ≤ 999999 by omega) (by omega) (by omega)
  have s5 : ∀ l, board_crown_L1 a b p t c e h f (l, 6) = some (.done (.go l)) := fun l => by
   simp only [board_crown_L1]
   exact if_neg (by decide)
  rw [loop_next' s1 (loop_next' s2 (loop_next' s3 (loop_next' s4 (loop_done (s5 _))))), Option.bind_some]
  simp only [board_crown_K1, board_crown_J2]
  rw [addS_app, addS_app, addS_app]
  rfl
theorem tell_p (I : Inv p t c e h f) (m : ∀ k, Into b k → PL p t c e a b k) {l : List Mv} (hl : l.length ≤ 900000) : board_Moves_2_m b a p t c e h f l = some (addS p t e l ((intoL b).map (mv a b))) := by
 unfold board_Moves_2_m
 rw [crown_p I m hl, Option.bind_some]
 rfl
theorem run_add {p : List Int} {t e : Int} {R : Type} {yd : Int → St (List Mv) R → Option (St (List Mv) R × Bool)} {g : Nat → List Mv} {M : Nat} : ∀ (L : List Nat) (l : List Mv), (∀ x ∈ L, (g x).length ≤ 4) → l.length + 4 * L.length ≤ M →
  (∀ x ∈ L, ∀ l : List Mv, l.length ≤ M → yd (x : Int) (.next l) = some (.next (addS p t e l (g x)), true)) → ydRun yd L (.next l) = some (.go (.next (addS p t e l (L.flatMap g))))
 | [], l, _, _, _ => by rw [List.flatMap_nil, addS_nil]; rfl
 | x :: L, l, hg, hM, hy => by
  simp only [List.length_cons] at hM
  have e0 : ydRun yd (x :: L) (.next l) = ((yd (x : Int) (.next l)).bind fun q => if q.2 = true then ydRun yd L q.1 else some (.ret q.1)) := rfl
  have hgx := hg x (by simp)
  have hal := addS_len p t e l (g x)
  rw [e0, hy x (by simp) l (by omega), Option.bind_some, if_pos rfl, run_add L _ (fun y hy' => hg y (by simp [hy'])) (by omega) (fun y hy' => hy y (by simp [hy'])), addS_app, List.flatMap_cons]
theorem nodup_len : ∀ (n : Nat) (l : List Nat), l.Nodup → (∀ x ∈ l, x < n) → l.length ≤ n
 | 0, l, _, h => by
  cases l with
  | nil => simp
  | cons x l => exact absurd (h x (by simp)) (by omega)
 | n + 1, l, hn, h => by
  have h1 := nodup_len n (l.filter (· ≠ n)) (hn.sublist List.filter_sublist) (fun x hx => by
   rw [List.mem_filter] at hx
   have := h x hx.1
   have h2 : x ≠ n := by simpa using hx.2
   omega)
  have h2 : (l.filter (· == n)).length ≤ 1 := by
   have h3 : (l.filter (· == n)).Nodup := hn.sublist List.filter_sublist
   cases hf : l.filter (· == n) with
   | nil => simp
   | cons x r =>
    cases r with
    | nil => simp
    | cons y r =>
     rw [hf] at h3
     have hx : x ∈ l.filter (· == n) := by rw [hf]; simp
     have hy : y ∈ l.filter (· == n) := by rw [hf]; simp
     rw [List.mem_filter, beq_iff_eq] at hx hy
     simp [hx.2, hy.2] at h3
  have h4 : ∀ l : List Nat, l.length = (l.filter (· == n)).length + (l.filter (· ≠ n)).length := by
   intro l
   induction l with
   | nil => rfl
   | cons x l ih =>
    by_cases hx : x = n
    ·simp [hx, ih]; omega
    ·simp [hx, ih]; omega
  have := h4 l
  omega
theorem reach_len (p : List Int) {i : Nat} (hi : i < 64) : (reachL p i).length ≤ 64 := nodup_len 64 _ (reach_nodup p hi) (fun _ hx => reach_lt hx)
theorem intoL_len (b : Nat) : (intoL b).length ≤ 4 := by unfold intoL; split <;> decide
theorem flatMap_len_le {α β : Type} {g : α → List β} {n : Nat} : ∀ L : List α, (∀ x ∈ L, (g x).length ≤ n) → (L.flatMap g).length ≤ n * L.length
 | [], _ => by simp
 | x :: L, h => by
  rw [List.flatMap_cons, List.length_append, List.length_cons, Nat.mul_add, Nat.mul_one]
  have h1 := h x (by simp)
  have h2 := flatMap_len_le L (fun y hy => h y (by simp [hy]))
  omega
theorem reachm_p (x : Int) : board_Reach_m p x = some x := rfl
theorem filter_flat {q : Nat → Bool} {g : Nat → List Mv} : ∀ L : List Nat, L.flatMap (fun x => if q x = true then g x else []) = (L.filter q).flatMap g
 | [] => rfl
 | x :: L => by
  rw [List.flatMap_cons, filter_flat L]
  cases hq : q x <;> simp [hq]
theorem shr3 (n : Nat) (_hn : n < 64) : shrK .i64 (n : Int) 3 = ((n / 8 : Nat) : Int) := shr_nat n 3 (by decide)
theorem pawn_p (I : Inv p t c e h f) (ha : a < 64) (hs : sideI (geti p a) = t) (h1 : (geti p a).natAbs = 1) {l : List Mv} (hl : l.length ≤ 800000) :
  board_pawn_m p t c e h f a a p t c e h f l = some (addS p t e l (fromL p t e a)) := by
 have hlen := I.len
 have ht := I.tt
 have hp8 := I.pw a ha h1
 have hsg : sgn t = 1 ∨ sgn t = -1 := by rcases sgn_t ht with h | h <;> omega
 have hfrom : fromL p t e a = ((reachL p a).filter (fun (b : Nat) => (sideI (geti p b) == 1 - t) || ((b : Int) == e))).flatMap (fun b => (intoL b).map (mv a b)) ++ (pushL p t a).flatMap (fun b => (intoL b).map (mv a b)) := by
  unfold fromL
  rw [if_neg (by simpa using hs), if_pos h1]
  unfold pawnTo
  rw [List.flatMap_append]
 rw [hfrom, ← addS_app]
 unfold board_pawn_m
 rw [forward_t ht, Option.bind_some, reachm_p, Option.bind_some]
 have hrl := reach_len p ha
 have hrun := run_add (p := p) (t := t) (e := e) (R := Unit) (M := 900000) (yd := ydOf (fun x s => (board_pawn_L1 p t e a p t c e h f) (x, s))) (g := fun b => if ((sideI (geti p b) == 1 - t) || ((b : Int) == e)) = true then (intoL b).map (mv a b) else []) (reachL p a) l (fun x _ => by
  have := intoL_len x
  split
  ·rw [List.length_map]; exact this
  ·simp) (by omega) (fun x hx l hl => by
   have hx64 := reach_lt hx
   simp only [ydOf, board_pawn_L1]
   rw [asrt_pos (by omega), side_eq, Option.bind_some, w64_of (by omega)]
   by_cases hq : ((sideI (geti p x) == 1 - t) || ((x : Int) == e)) = true
   ·rw [if_pos hq, if_pos hq]
    have hq' : sideI (geti p x) = 1 - t ∨ (x : Int) = e := by simpa using hq
    rw [tell_p I (fun k hk => .cap ha hs h1 hx hq' hk) hl, Option.bind_some]
    rfl
   ·rw [if_neg hq, if_neg hq, addS_nil]
    rfl)
 rw [filter_flat] at hrun
 rw [reach_run hlen ha (I.sm.2 a ha) hrun, Option.bind_some]
 have hcl : (addS p t e l (((reachL p a).filter (fun (b : Nat) => (sideI (geti p b) == 1 - t) || ((b : Int) == e))).flatMap (fun b => (intoL b).map (mv a b)))).length ≤ 800256 := by
  have q1 := addS_len p t e l (((reachL p a).filter (fun (b : Nat) => (sideI (geti p b) == 1 - t) || ((b : Int) == e))).flatMap (fun b => (intoL b).map (mv a b)))
  have q2 := flatMap_len_le (n := 4) (g := fun b => (intoL b).map (mv a b)) ((reachL p a).filter (fun (b : Nat) => (sideI (geti p b) == 1 - t) || ((b : Int) == e))) (fun x _ => by rw [List.length_map]; exact intoL_len x)
  have q3 := List.length_filter_le (fun (b : Nat) => (sideI (geti p b) == 1 - t) || ((b : Int) == e)) (reachL p a)
  omega
 generalize addS p t e l (((reachL p a).filter (fun (b : Nat) => (sideI (geti p b) == 1 - t) || ((b : Int) == e))).flatMap (fun b => (intoL b).map (mv a b))) = l1 at hcl ⊢
 simp only [flV, board_pawn_K1]
 unfold board_pawn_J2
 obtain ⟨b1, hb1, hb64⟩ : ∃ b1 : Nat, (b1 : Int) = (a : Int) + 8 * sgn t ∧ b1 < 64 := by
  rcases sgn_t ht with ⟨rfl, h⟩ | ⟨rfl, h⟩ <;> rw [h]
  ·exact ⟨a + 8, by omega, by omega⟩
  ·exact ⟨a - 8, by omega, by omega⟩
 have w8 : w64 (8 * sgn t) = 8 * sgn t := w64_of (by omega)
 have w16 : w64 (2 * (8 * sgn t)) = 16 * sgn t := by rw [w64_of (by omega)]; omega
 have wa8 : w64 ((a : Int) + 8 * sgn t) = (b1 : Int) := by rw [w64_of (by omega), hb1]
 have wa16 : w64 ((a : Int) + 16 * sgn t) = (a : Int) + 16 * sgn t := w64_of (by omega)
 unfold board_pawn_J3 board_pawn_J1 pushL
 rw [w8, w16, wa8, wa16, asrt_pos (by omega), ← hb1, Int.toNat_natCast]
 by_cases h0 : geti p (b1 : Int) = 0
 ·rw [if_neg (by simp [h0]), if_pos h0, tell_p I (fun k hk => .push ha hs h1 hb1 h0 hk) (by omega), Option.bind_some]
  have hrow : (shrK .i64 (a : Int) 3 == w64 (1 + w64 (5 * t))) = decide (((a / 8 : Nat) : Int) = 1 + 5 * t) := by
   rw [shr3 a ha, w64_of (x := 5 * t) (by omega), w64_of (by omega), Bool.eq_iff_iff, beq_iff_eq, decide_eq_true_eq]
  rw [hrow]
  by_cases hr : ((a / 8 : Nat) : Int) = 1 + 5 * t
  ·obtain ⟨b2, hb2, hb264⟩ : ∃ b2 : Nat, (b2 : Int) = (a : Int) + 16 * sgn t ∧ b2 < 64 := by
    rcases sgn_t ht with ⟨rfl, h⟩ | ⟨rfl, h⟩ <;> rw [h]
    ·exact ⟨a + 16, by omega, by omega⟩
    ·exact ⟨a - 16, by omega, by omega⟩
   rw [asrt_pos (by omega), decide_eq_true hr, ← hb2, Int.toNat_natCast]
   by_cases h2 : geti p (b2 : Int) = 0
   ·rw [if_pos (by simp [h2]), if_pos ⟨hr, h2⟩]
    have hq := addS_len p t e l1 ((intoL b1).map (mv a b1))
    rw [List.length_map] at hq
    have := intoL_len b1
    rw [tell_p I (fun k hk => by
     have : k = 0 := by
      unfold Into at hk
      rw [if_pos (by rcases sgn_t ht with ⟨rfl, h⟩ | ⟨rfl, h⟩ <;> rw [h] at hb2 <;> omega)] at hk
      exact hk
     subst this
     exact .dbl ha hs h1 hb2 hr (by rw [← hb1]; exact h0) h2) (by omega), Option.bind_some, addS_app]
    simp
   ·rw [if_neg (by simp [h2]), if_neg (fun q => h2 q.2)]
    simp
  ·rw [asrt_pos (by intro q; exact absurd (of_decide_eq_true q) hr), decide_eq_false hr, if_neg (by simp), if_neg (fun q => hr q.1)]
   simp
 ·rw [if_pos (by simpa using h0), if_neg h0]
  simp [addS_nil]
theorem bit_tab0 : ((List.range 16).all fun c => (List.range 4).all fun n => ((bAnd (shrK .i64 (c : Int) (n : Int)) 1 == 0) == !cbit (c : Int) n)) = true := by decide +kernel
theorem bit_tab01 {c : Int} (hc : 0 ≤ c ∧ c ≤ 15) {n : Nat} (hn : n < 4) : (bAnd (shrK .i64 c (n : Int)) 1 == 0) = !cbit c n := by
 have h := List.all_eq_true.1 (List.all_eq_true.1 bit_tab0 c.toNat (List.mem_range.2 (by omega))) n (List.mem_range.2 hn)
 rw [show ((c.toNat : Nat) : Int) = c by omega] at h
 simpa using h
def PathTo (n : Nat) (R : Int) (way : Int) : List Nat → Int → Prop
 | [], x => x = R
 | b :: r, x => x = (b : Int) ∧ (b : Int) ≠ R ∧ b < 64 ∧ PathTo n R way r ((b : Int) + way)
theorem path_run (hl : p.length = 64) {n : Nat} {K R way : Int} (hw : w64 (1 - w64 (2 * bAnd (n : Int) 1)) = way) (hway : -10 ≤ way ∧ way ≤ 10) : ∀ (bs : List Nat) (x : Int) (free : Bool), PathTo n R way bs x →
  loop (board_castles_L2 p n (K, R)) (free, x) = some (free && bs.all (fun (j : Nat) => geti p j == 0))
 | [], x, free, hp => by
  have hp : x = R := hp
  subst hp
  refine loop_done ?_
  simp only [board_castles_L2]
  rw [if_neg (by simp)]
  simp
 | b :: bs, x, free, hp => by
  obtain ⟨rfl, hR, hb, hp⟩ := hp
  have e0 : board_castles_L2 p n (K, R) (free, (b : Int)) = some (.next (free && (geti p b == 0), (b : Int) + way)) := by
   simp only [board_castles_L2]
   rw [if_pos (by simpa using hR)]
   unfold board_castles_J6 board_castles_J7
   rw [asrt_pos (by omega), hw, w64_of (by omega)]
  refine loop_next' e0 ?_
  rw [path_run hl hw hway bs _ _ hp, List.all_cons, Bool.and_assoc]
theorem att_step (hs : Small p) (ht : t = 0 ∨ t = 1) {n : Nat} {K R way : Int} (hw : w64 (1 - w64 (2 * bAnd (n : Int) 1)) = way) (hway : -10 ≤ way ∧ way ≤ 10) {z j : Nat} (hz : z < 3) (hK : 0 ≤ K ∧ K ≤ 64) (hj : (j : Int) = K + z * way) (free : Bool) :
  board_castles_L3 p t n (K, R) (free, (z : Int)) = some (.next (free && (attL p j (1 - t) 64).isEmpty, ((z + 1 : Nat) : Int))) := by
 simp only [board_castles_L3]
 rw [if_pos (decide_eq_true (by omega))]
 unfold board_castles_J9 board_castles_J10
 have hzw : -30 ≤ (z : Int) * way ∧ (z : Int) * way ≤ 30 := by
  have : z = 0 ∨ z = 1 ∨ z = 2 := by omega
  rcases this with rfl | rfl | rfl <;> omega
 rw [hw, w64_of (x := (z : Int) * way) (by omega), w64_of (x := K + (z : Int) * way) (by omega), ← hj, w64_of (x := 1 - t) (by omega), w64_of (x := (z : Int) + 1) (by omega), attackers_p hs (by omega), Option.bind_some]
 cases free with
 | false => rfl
 | true =>
  simp only [if_true, Bool.true_and]
  congr 4
  cases attL p j (1 - t) 64 with
  | nil => rfl
  | cons x r => rw [Bool.eq_iff_iff, beq_iff_eq]; simp; omega
theorem castle_turn (I : Inv p t c e h f) {n : Nat} (hn : n < 4) (hnt : ((n / 2 : Nat) : Int) = t) {l : List Mv} (hl : l.length ≤ 900000) : board_castles_L1 p t c p t c e h f (l, (n : Int)) = some (.next (addS p t e l (if castB p t c n = true then [mv (homeK n) (castTo n) 0] else []), ((n + 1 : Nat) : Int))) := by
 have ht := I.tt
 simp only [board_castles_L1]
 rw [if_pos (decide_eq_true (by rw [w64_of (x := 2 * t) (by omega), w64_of (by omega)]; omega))]
 unfold board_castles_J2 board_castles_J3
 have hw1 : w64 ((n : Int) + 1) = ((n + 1 : Nat) : Int) := by rw [w64_of (by omega)]; omega
 rw [hw1]
 have hbit := bit_p I.cc hn
 have hcb : castB p t c n = (cbit c n && ((betw n).all (fun (j : Nat) => geti p j == 0) && (wayC n).all (fun j => (attL p j (1 - t) 64).isEmpty))) := by
  unfold castB
  rw [decide_eq_true hnt, Bool.true_and]
 have hb01 : (bAnd (shrK .i64 c (n : Int)) 1 == 0) = !cbit c n := by
  have := bit_tab01 I.cc hn
  exact this
 have main : ∀ (K R way : Int) (k r : Nat), board_Right_m (n : Int) = some (K, R) → w64 (1 - w64 (2 * bAnd (n : Int) 1)) = way → (way = 1 ∨ way = -1) → K = (homeK n : Int) → PathTo n R way (betw n) (K + way) → (wayC n = [homeK n, k, r]) → (k : Int) = K + way → (r : Int) = K + 2 * way → r = castTo n →
   ((board_Right_m (n : Int)).bind fun r1 => asrt ((0 : Int) ≤ n) <| if ((bAnd (shrK .i64 c n) 1) == 0) = true then (some (.next (l, ((n + 1 : Nat) : Int)))) else (board_castles_J4 p t p t c e h f l n r1)) = some (.next (addS p t e l (if castB p t c n = true then [mv (homeK n) (castTo n) 0] else []), ((n + 1 : Nat) : Int))) := by
  intro K R way k r hR hw hway hK hpath hwc hk hr hrc
  rw [hR, Option.bind_some, asrt_pos (by omega), hb01, hcb]
  cases hbt : cbit c n with
  | false => simp [addS_nil]
  | true =>
   simp only [Bool.not_true, Bool.false_eq_true, if_false, Bool.true_and]
   have hK64 : 0 ≤ K ∧ K ≤ 64 := by rw [hK]; unfold homeK; split <;> omega
   unfold board_castles_J4
   rw [hw, w64_of (x := K + way) (by omega), path_run I.len hw (by omega) _ _ _ hpath, Option.bind_some]
   simp only [board_castles_K2, Bool.true_and]
   unfold board_castles_J5
   generalize hf : (betw n).all (fun (j : Nat) => geti p j == 0) = free
   have a0 := att_step (p := p) (R := R) I.sm ht hw (by omega) (z := 0) (j := homeK n) (by omega) hK64 (by omega) free
   have a1 := att_step (p := p) (R := R) I.sm ht hw (by omega) (z := 1) (j := k) (by omega) hK64 (by omega) (free && (attL p (homeK n) (1 - t) 64).isEmpty)
   have a2 := att_step (p := p) (R := R) I.sm ht hw (by omega) (z := 2) (j := r) (by omega) hK64 (by omega) ((free && (attL p (homeK n) (1 - t) 64).isEmpty) && (attL p k (1 - t) 64).isEmpty)
   have a3 : ∀ x, board_castles_L3 p t n (K, R) (x, ((3 : Nat) : Int)) = some (.done x) := fun x => by
    simp only [board_castles_L3]
    exact if_neg (by decide)
   have hloop := loop_next' a0 (loop_next' a1 (loop_next' a2 (loop_done (a3 _))))
   rw [show (((0 : Nat) : Int)) = 0 from rfl] at hloop
   rw [hloop, Option.bind_some]
   simp only [board_castles_K3]
   unfold board_castles_J8 board_castles_J3
   rw [hw1, hwc]
   simp only [List.all_cons, List.all_nil, Bool.and_true, Bool.and_assoc]
   cases hall : (free && ((attL p (homeK n) (1 - t) 64).isEmpty && ((attL p k (1 - t) 64).isEmpty && (attL p r (1 - t) 64).isEmpty))) with
   | false => simp [addS_nil]
   | true =>
    simp only [if_true]
    have ho : CastOk p t c n := (castB_iff hn).1 (by
     rw [hcb, hbt, hf, hwc]
     simp only [List.all_cons, List.all_nil, Bool.and_true, Bool.true_and]
     exact hall)
    have hto : w64 (K + w64 (2 * way)) = ((castTo n : Nat) : Int) := by
     rw [w64_of (x := 2 * way) (by omega), w64_of (by omega), ← hrc, hr]
    rw [hw, hto, hK]
    unfold board_Moves_3_m
    rw [add_p I (.castle ho) (by omega), Option.bind_some]
    rfl
 obtain ⟨r0, r1, r2, r3⟩ := right_p
 have hcases : n = 0 ∨ n = 1 ∨ n = 2 ∨ n = 3 := by omega
 rcases hcases with rfl | rfl | rfl | rfl
 ·exact main 4 7 1 5 6 r0 (by decide) (by decide) rfl (by simp [PathTo, betw]) rfl (by decide) (by decide) rfl
 ·exact main 4 0 (-1) 3 2 r1 (by decide) (by decide) rfl (by simp [PathTo, betw]) rfl (by decide) (by decide) rfl
 ·exact main 60 63 1 61 62 r2 (by decide) (by decide) rfl (by simp [PathTo, betw]) rfl (by decide) (by decide) rfl
 ·exact main 60 56 (-1) 59 58 r3 (by decide) (by decide) rfl (by simp [PathTo, betw]) rfl (by decide) (by decide) rfl
theorem castles_p (I : Inv p t c e h f) {l : List Mv} (hl : l.length ≤ 800000) : board_castles_m p t c e h f p t c e h f l = some (addS p t e l (castL p t c)) := by
 have ht := I.tt
 have hoff : ∀ n : Nat, ((n / 2 : Nat) : Int) ≠ t → castB p t c n = false := fun n hn => by unfold castB; rw [decide_eq_false hn]; rfl
 have hend : ∀ (l : List Mv) (n : Nat), (n : Int) = 2 * t + 2 → board_castles_L1 p t c p t c e h f (l, (n : Int)) = some (.done l) := fun l n hn => by
  simp only [board_castles_L1]
  exact if_neg (by rw [w64_of (x := 2 * t) (by omega), w64_of (by omega)]; simp; omega)
 unfold board_castles_m
 have hone : ∀ n, (if castB p t c n = true then [mv (homeK n) (castTo n) 0] else ([] : List Mv)).length ≤ 1 := fun n => by split <;> simp
 rcases ht with rfl | rfl
 ·have s0 := castle_turn I (n := 0) (by omega) (by decide) (l := l) (by omega)
  have q0 := addS_len p 0 e l (if castB p 0 c 0 = true then [mv (homeK 0) (castTo 0) 0] else [])
  have := hone 0
  have s1 := castle_turn I (n := 1) (by omega) (by decide) (l := addS p 0 e l (if castB p 0 c 0 = true then [mv (homeK 0) (castTo 0) 0] else [])) (by omega)
  rw [show w64 (2 * 0) = ((0 : Nat) : Int) by decide, loop_next' s0 (loop_next' s1 (loop_done (hend _ 2 (by decide)))), Option.bind_some, addS_app]
  simp only [board_castles_K1, board_castles_J1]
  congr 2
  unfold castL
  rw [List.filter_cons, List.filter_cons, List.filter_cons, List.filter_cons, hoff 2 (by decide), hoff 3 (by decide)]
  cases castB p 0 c 0 <;> cases castB p 0 c 1 <;> simp
 ·have s0 := castle_turn I (n := 2) (by omega) (by decide) (l := l) (by omega)
  have q0 := addS_len p 1 e l (if castB p 1 c 2 = true then [mv (homeK 2) (castTo 2) 0] else [])
  have := hone 2
  have s1 := castle_turn I (n := 3) (by omega) (by decide) (l := addS p 1 e l (if castB p 1 c 2 = true then [mv (homeK 2) (castTo 2) 0] else [])) (by omega)
  rw [show w64 (2 * 1) = ((2 : Nat) : Int) by decide, loop_next' s0 (loop_next' s1 (loop_done (hend _ 4 (by decide)))), Option.bind_some, addS_app]
  simp only [board_castles_K1, board_castles_J1]
  congr 2
  unfold castL
  rw [List.filter_cons, List.filter_cons, List.filter_cons, List.filter_cons, hoff 0 (by decide), hoff 1 (by decide)]
  cases castB p 1 c 2 <;> cases castB p 1 c 3 <;> simp
theorem from_len (I : Inv p t c e h f) (ha : a < 64) : (fromL p t e a).length ≤ 264 := by
 have hr := reach_len p ha
 have hf : ∀ q : Nat → Bool, ((reachL p a).filter q).length ≤ 64 := fun q => Nat.le_trans (List.length_filter_le _ _) hr
 unfold fromL
 split
 ·simp
 split
 ·have h2 : (pawnTo p t e a).length ≤ 66 := by
   unfold pawnTo
   rw [List.length_append]
   have : (pushL p t a).length ≤ 2 := by unfold pushL; split <;> (try split) <;> simp
   have := hf (fun (b : Nat) => (sideI (geti p b) == 1 - t) || ((b : Int) == e))
   omega
  have := flatMap_len_le (n := 4) (g := fun b => (intoL b).map (mv a b)) (pawnTo p t e a) (fun x _ => by rw [List.length_map]; exact intoL_len x)
  omega
 ·rw [List.length_map]
  have := hf (fun (b : Nat) => sideI (geti p b) != t)
  omega
theorem from_turn (I : Inv p t c e h f) (ha : a < 64) {l : List Mv} (hl : l.length ≤ 700000) : board_Moves_L1 p t c e h f (l, (a : Int)) = some (.next (addS p t e l (fromL p t e a), ((a + 1 : Nat) : Int))) := by
 have hlen := I.len
 have ht := I.tt
 simp only [board_Moves_L1]
 rw [if_pos (decide_eq_true (by omega))]
 unfold board_Moves_J2 board_Moves_J3
 have hw1 : w64 ((a : Int) + 1) = ((a + 1 : Nat) : Int) := by rw [w64_of (by omega)]; omega
 rw [asrt_pos (by omega), side_eq, Option.bind_some, hw1]
 by_cases hs : sideI (geti p a) = t
 ·rw [if_neg (by simpa using hs), kind_small (I.sm.2 a ha), Option.bind_some]
  by_cases h1 : (geti p a).natAbs = 1
  ·rw [if_pos (by simp [h1]), pawn_p I ha hs h1 (by omega), Option.bind_some]
  ·rw [if_neg (by simp; omega), reachm_p, Option.bind_some]
   have hrl := reach_len p ha
   have hrun := run_add (p := p) (t := t) (e := e) (R := Unit) (M := 900000) (yd := ydOf (fun x s => (board_Moves_L2 p t c e h f a) (x, s))) (g := fun b => if (sideI (geti p b) != t) = true then [mv a b 0] else []) (reachL p a) l (fun x _ => by split <;> simp) (by omega) (fun x hx l hl => by
    have hx64 := reach_lt hx
    simp only [ydOf, board_Moves_L2]
    rw [asrt_pos (by omega), side_eq, Option.bind_some]
    by_cases hq : (sideI (geti p x) != t) = true
    ·rw [if_pos hq, if_pos hq]
     have hq' : sideI (geti p x) ≠ t := by simpa using hq
     rw [add_p I (.pc ha hs h1 hx hq') (by omega), Option.bind_some]
     rfl
    ·rw [if_neg hq, if_neg hq, addS_nil]
     rfl)
   rw [filter_flat] at hrun
   rw [reach_run hlen ha (I.sm.2 a ha) hrun, Option.bind_some]
   simp only [flV, board_Moves_K2, board_Moves_J3]
   rw [hw1]
   congr 4
   unfold fromL
   rw [if_neg (by simpa using hs), if_neg h1]
   induction (reachL p a).filter (fun (b : Nat) => sideI (geti p b) != t) with
   | nil => rfl
   | cons x r ih => rw [List.flatMap_cons, ih]; rfl
 ·rw [if_pos (by simpa using hs)]
  unfold fromL
  rw [if_pos hs, addS_nil]
theorem moves_loop (I : Inv p t c e h f) : loop (board_Moves_L1 p t c e h f) ([], 0) = some (addS p t e [] ((List.range 64).flatMap (fromL p t e))) := by
 have hst : ∀ n : Nat, n ≤ 64 → (addS p t e [] ((List.range n).flatMap (fromL p t e))).length ≤ 264 * n := by
  intro n hn
  have q1 := addS_len p t e [] ((List.range n).flatMap (fromL p t e))
  have q2 := flatMap_len_le (n := 264) (g := fromL p t e) (List.range n) (fun x hx => from_len I (by have := List.mem_range.1 hx; omega))
  simp only [List.length_nil, List.length_range] at q1 q2
  omega
 refine loop_from (fun n : Nat => (addS p t e [] ((List.range n).flatMap (fromL p t e)), (n : Int))) 64 (by simp [addS_nil]) (fun i hi => ?_) ?_
 ·have := hst i (by omega)
  rw [from_turn I hi (by omega), addS_app, List.range_succ, List.flatMap_append]
  simp
 ·simp only [board_Moves_L1]
  rw [if_neg (by rw [I.len]; simp)]
theorem moves_p (I : Inv p t c e h f) : board_Moves_m p t c e h f = some (refL p t c e) := by
 unfold board_Moves_m
 rw [moves_loop I, Option.bind_some]
 simp only [board_Moves_K1]
 unfold board_Moves_J1
 have q1 := addS_len p t e [] ((List.range 64).flatMap (fromL p t e))
 have q2 := flatMap_len_le (n := 264) (g := fromL p t e) (List.range 64) (fun x hx => from_len I (List.mem_range.1 hx))
 simp only [List.length_nil, List.length_range] at q1 q2
 rw [castles_p I (by omega), Option.bind_some, addS_app]
 have hprog : addS p t e [] ((List.range 64).flatMap (fromL p t e) ++ castL p t c) = progL p t c e := by
  unfold addS progL rawL
  simp
 rw [hprog]
 unfold api_Move_2_m
 have hpl : (progL p t c e).length ≤ 100000 := by
  rw [← hprog]
  have q3 := addS_len p t e [] ((List.range 64).flatMap (fromL p t e) ++ castL p t c)
  rw [List.length_append] at q3
  have q4 : (castL p t c).length ≤ 4 := by
   unfold castL
   rw [List.length_map]
   exact Nat.le_trans (List.length_filter_le _ _) (by simp)
  simp only [List.length_nil] at q3
  omega
 rw [asrt_pos (by unfold bigN; omega), Option.bind_some, moves_eq I]
theorem refL_len (I : Inv p t c e h f) : (refL p t c e).length ≤ 20000 := by
 rw [← moves_eq I, sortK_length]
 unfold progL
 have q1 := List.length_filter_le (safeB p t e) (rawL p t c e)
 have q2 := flatMap_len_le (n := 264) (g := fromL p t e) (List.range 64) (fun x hx => from_len I (List.mem_range.1 hx))
 have q4 : (castL p t c).length ≤ 4 := by
  unfold castL
  rw [List.length_map]
  exact Nat.le_trans (List.length_filter_le _ _) (by simp)
 simp only [List.length_range] at q2
 have q5 : (rawL p t c e).length = ((List.range 64).flatMap (fromL p t e)).length + (castL p t c).length := by unfold rawL; rw [List.length_append]
 omega
end
end Go.Proofs.Ytfmmlmiakkjaiaa
