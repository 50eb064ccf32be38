/-
  DraughtsWays: the document's jumps.
-/
import Derived.Test.YtoickcchcjehdaaVWb
namespace Go.Proofs.Ytoickcchcjehdaa
open Go Go.GL

theorem at_r {l : List Int} (hl : l.length ≤ 4611686018427387904) (v : Int) : ∃ r, gameroomref_at_m l v = some r ∧ decide (0 ≤ r) = l.contains v := by
  have key : ∀ m i, i + m = l.length → ∃ r, (loop (gameroomref_at_L1 l v) (i : Int)).bind gameroomref_at_K1 = some r ∧ (0 ≤ r ↔ (l.drop i).contains v = true) := by
    intro m
    induction m with
    | zero =>
      intro i hi
      obtain rfl : i = l.length := by omega
      rw [loop_done (r := (Fl.go () : Fl Unit Int)) (by
        unfold gameroomref_at_L1
        dsimp only
        rw [if_neg (by simp)]), List.drop_length]
      exact ⟨-1, rfl, by simp⟩
    | succ m ih =>
      intro i hi
      have hs : gameroomref_at_L1 l v (i : Int) = if geti l (i : Int) == v then some (.done (.ret (i : Int))) else some (.next ((i + 1 : Nat) : Int)) := by
        unfold gameroomref_at_L1 gameroomref_at_J2 gameroomref_at_J3
        dsimp only
        rw [if_pos (by rw [decide_eq_true_eq]; omega), asrt_pos (by omega), w64_of (x := (i : Int) + 1) (by omega)]
        rfl
      have hd : l.drop i = geti l (i : Int) :: l.drop (i + 1) := by
        rw [List.drop_eq_getElem_cons (by omega), geti_bang (by omega), getElem!_pos l i (by omega)]
      rw [hd, List.contains_cons]
      by_cases hb : geti l (i : Int) = v
      · rw [if_pos (by simpa using hb)] at hs
        rw [loop_done hs]
        exact ⟨i, rfl, by simp [hb]⟩
      · rw [if_neg (by simpa using hb)] at hs
        obtain ⟨r, h1, h2⟩ := ih (i + 1) (by omega)
        have hb2 : (v == geti l (i : Int)) = false := by simpa using fun e => hb (Eq.symm e)
        refine ⟨r, ?_, by rw [h2, hb2, Bool.false_or]⟩
        rw [← h1]
        congr 1
        refine loop_next hs rfl ?_
        cases hq : loop (gameroomref_at_L1 l v) ((i + 1 : Nat) : Int) with
        | some x => rfl
        | none => rw [hq] at h1; exact absurd h1 (by simp)
  obtain ⟨r, h1, h2⟩ := key l.length 0 (by omega)
  refine ⟨r, h1, ?_⟩
  rw [Bool.eq_iff_iff, decide_eq_true_eq]
  exact h2
theorem Ints_p {l : List Int} (h : l.length ≤ 1000) : gameroomref_Ints_m l = some l := by
  unfold gameroomref_Ints_m
  rw [asrt_pos (by unfold bigN; omega), List.nil_append]

def dirsD (s pc : Int) : List Nat := [0, 2, 1, 3].filter fun d => (dirsP s pc).contains d
theorem dirs_mem (s pc : Int) : ∀ d, d ∈ dirsP s pc ↔ d ∈ dirsD s pc := fun d => by
  unfold dirsD
  rw [List.mem_filter, List.contains_iff_mem]
  refine ⟨fun h => ⟨?_, h⟩, fun h => h.2⟩
  have := (dirs_lt s pc).2 d h
  have : d = 0 ∨ d = 1 ∨ d = 2 ∨ d = 3 := by omega
  rcases this with rfl | rfl | rfl | rfl <;> decide
theorem forward_p {s pc : Int} (hs : s = 1 ∨ s = -1) (hp : pc = 1 ∨ pc = 2) : ∀ d : Nat, d < 4 → gameroomref_forwardMay_m (s * pc) (yo d) = some ((dirsP s pc).contains d) := by
  rcases hs with rfl | rfl <;> rcases hp with rfl | rfl <;> decide
theorem filter_flat {α β : Type} (f : α → Bool) (G : α → List β) : ∀ l : List α, (l.filter f).flatMap G = l.flatMap fun d => if f d then G d else []
  | [] => rfl
  | x :: l => by
    rw [List.filter_cons, List.flatMap_cons, ← filter_flat f G l]
    cases f x with
    | true => rw [if_pos rfl, if_pos rfl, List.flatMap_cons]
    | false => rw [if_neg (by decide), if_neg (by decide), List.nil_append]

section
variable {b : List Int} {s tn : Int} (h : Brd b s) (htn : (tn = 1 ∧ s = 1) ∨ (tn = 2 ∧ s = -1)) {pc : Int} (hpc : pc = 1 ∨ pc = 2)
include h htn
theorem owner_p {q : Nat} (hq : q < 33) : ∃ r, gameroomref_ownerOf_m (geti b (q : Int)) = some r ∧ (r != w64 (3 - tn)) = !decide (tof b s q < 0) ∧ (r != tn) = !decide (0 < tof b s q) := by
  have e1 : w64 (3 - tn) = 3 - tn := w64_of (by omega)
  rw [e1]
  unfold gameroomref_ownerOf_m gameroomref_ownerOf_J1 gameroomref_ownerOf_J2 tof
  have hv := h.val q hq
  generalize geti b (q : Int) = x at *
  have : x = -2 ∨ x = -1 ∨ x = 0 ∨ x = 1 ∨ x = 2 := by omega
  rcases htn with ⟨rfl, rfl⟩ | ⟨rfl, rfl⟩ <;> rcases this with rfl | rfl | rfl | rfl | rfl <;> exact ⟨_, rfl, rfl, rfl⟩
include hpc
theorem crown_d (to : Nat) : (((s * pc) == 1) && (decide ((to : Int) ≤ 4)) || ((s * pc) == (-1)) && (decide ((29 : Int) ≤ (to : Int)))) = crownP s pc to := by
  unfold crownP
  rcases htn with ⟨rfl, rfl⟩ | ⟨rfl, rfl⟩ <;> rcases hpc with rfl | rfl <;> rw [Bool.eq_iff_iff] <;> simp <;> omega

theorem jumps_d {st : Nat} : ∀ (n p : Nat) (way over : List Int), 1 ≤ p → p < 33 → rem (tof b s) over < n → 0 < way.length → way.length + n ≤ 900 → over.length + n ≤ 900 →
    geti way ((way.length - 1 : Nat) : Int) = (p : Int) → geti way 0 = (st : Int) → 4 ^ n ≤ 100000000000 →
    gameroomref_jumpsOn_mF n b tn (s * pc) way over = some (JS (tof b s) (crownP s pc) (dirsD s pc) st n p way over)
  | 0, _, _, _, _, _, hr, _, _, _, _, _, _ => absurd hr (Nat.not_lt_zero _)
  | n + 1, p, way, over, hp1, hp2, hr, hw0, hw, ho, hl, hst, hb => by
    have IH := jumps_d (st := st) n
    have hpw : 4 ^ (n + 1) = 4 * 4 ^ n := by rw [Nat.pow_succ, Nat.mul_comm]
    have h41 : 1 ≤ 4 ^ n := Nat.one_le_pow _ _ (by omega)
    rw [hpw] at hb
    have elast : w64 ((way.length : Int) - 1) = ((way.length - 1 : Nat) : Int) := by rw [w64_of (by omega)]; omega
    have hd4 : (dirsD s pc).length ≤ 4 := List.length_filter_le _ _
    obtain ⟨x1, y1⟩ := dXY_m p hp2 hp1
    -- one direction
    have step : ∀ (d : Nat) (out : List (List Int)), d < 4 → out.length + 4 ^ n ≤ 4 * 4 ^ n → gameroomref_jumpsOn_J4 (gameroomref_jumpsOn_mF n) b tn (s * pc) way over (xo d) out (yo d) = some (.next (out ++ (if (dirsP s pc).contains d then GJ (tof b s) (crownP s pc) (dirsD s pc) st n p way over d else []), yo d + 2)) := by
      intro d out hd hob
      obtain ⟨a1, a2, a3⟩ := dA_m p hp2 d hd hp1
      obtain ⟨m1, m2⟩ := nx_m p hp2 d hd hp1
      have hyo : w64 (yo d + 2) = yo d + 2 := by
        have : yo d = -1 ∨ yo d = 1 := by unfold yo; split <;> simp
        rcases this with e | e <;> rw [e] <;> rfl
      have J5 : ∀ o, gameroomref_jumpsOn_J5 (yo d) o = some (.next (o, yo d + 2)) := fun o => by
        unfold gameroomref_jumpsOn_J5
        rw [hyo]
      unfold gameroomref_jumpsOn_J4
      rw [elast, hl, x1, Option.bind_some, y1, Option.bind_some, a1, Option.bind_some, Option.bind_some, Option.bind_some, a2, Option.bind_some, forward_p h.sgn hpc d hd, Option.bind_some]
      obtain ⟨ro, o1, o2, _⟩ := owner_p h htn m2
      obtain ⟨ra, r1, r2⟩ := at_r (l := over) (by omega) ((nx p d : Nat) : Int)
      cases hf : (dirsP s pc).contains d with
      | false =>
        rw [asrt_pos (by simp), if_neg (by simp), Option.bind_some, if_neg (by simp), Option.bind_some, asrt_pos (by simp), asrt_pos (by simp), if_pos (by simp), J5, if_neg (by decide), List.append_nil]
      | true =>
        rw [if_pos rfl]
        unfold GJ
        by_cases z0 : nx2 p d = 0
        · have hk : okJ (tof b s) st over p d = false := by
            unfold nx2 at z0
            unfold okJ
            by_cases e : nx p d = 0
            · rw [e]; rfl
            · rw [if_neg e] at z0
              rw [z0]; simp
          rw [z0, asrt_pos (by simp), if_neg (by simp), Option.bind_some, if_neg (by simp), Option.bind_some, asrt_pos (by simp), asrt_pos (by simp), if_pos (by simp), J5, hk, if_neg (by decide), List.append_nil]
        · have z1 : nx p d ≠ 0 := fun e => z0 (by unfold nx2; rw [if_pos e])
          have e2 : nx2 p d = nx (nx p d) d := by unfold nx2; rw [if_neg z1]
          rw [e2] at z0 a3 ⊢
          have g6 : (!((!true) || (((nx (nx p d) d : Nat) : Int) == 0))) = true := by simp; omega
          have g6' : ((!true) || (((nx (nx p d) d : Nat) : Int) == 0)) = false := by simp; omega
          rw [asrt_pos (fun _ => by rw [h.len]; omega), if_pos g6, o1, Option.bind_some, o2, g6', Bool.false_or]
          by_cases z2 : tof b s (nx p d) < 0
          · rw [show (!decide (tof b s (nx p d) < 0)) = false by simpa using z2, if_pos (by decide), r1, Option.bind_some, r2, Bool.false_or]
            by_cases z3 : over.contains ((nx p d : Nat) : Int) = true
            · have hk : okJ (tof b s) st over p d = false := by unfold okJ; rw [z3]; simp
              rw [z3, asrt_pos (by simp), asrt_pos (by simp), if_pos (by simp), J5, hk, if_neg (by decide), List.append_nil]
            · have z3 := Bool.eq_false_iff.2 z3
              have ht0 : (geti b ((nx (nx p d) d : Nat) : Int) != 0) = !(tof b s (nx (nx p d) d) == 0) := by
                unfold tof
                have hv := h.val _ a3
                generalize geti b ((nx (nx p d) d : Nat) : Int) = x at *
                rw [Bool.eq_iff_iff]
                rcases htn with ⟨_, rfl⟩ | ⟨_, rfl⟩ <;> simp
              rw [z3, asrt_pos (fun _ => by rw [h.len]; omega), asrt_pos (fun _ _ => by omega), Bool.false_or, hst, ht0]
              have hco : ((!(tof b s (nx (nx p d) d) == 0)) && (((nx (nx p d) d : Nat) : Int) != (st : Int))) = !(tof b s (nx (nx p d) d) == 0 || nx (nx p d) d == st) := by
                rw [Bool.not_or]
                congr 1
                rw [Bool.eq_iff_iff]
                simp
                omega
              rw [hco]
              cases z5 : (tof b s (nx (nx p d) d) == 0 || nx (nx p d) d == st) with
              | false =>
                have hk : okJ (tof b s) st over p d = false := by unfold okJ; rw [z5]; simp
                rw [if_pos (by decide), J5, hk, if_neg (by decide), List.append_nil]
              | true =>
                have hk : okJ (tof b s) st over p d = true := by
                  unfold okJ
                  rw [z5, z3]
                  simp [z1, z2, z0]
                rw [if_neg (by decide), hk, if_pos rfl]
                unfold gameroomref_jumpsOn_J6
                rw [Ints_p (by omega), Option.bind_some, asrt_pos (by unfold bigN; omega), crown_d h htn hpc]
                obtain ⟨k1, k2⟩ := nx_m (nx p d) m2 d hd (by omega)
                generalize nx (nx p d) d = to at *
                generalize nx p d = mid at *
                have hlen : (way ++ [((to : Nat) : Int)]).length = way.length + 1 := by simp
                have J7 : ∀ more : List (List Int), more.length ≤ 4 ^ n → gameroomref_jumpsOn_J7 out (yo d) ((to : Nat) : Int) way more = some (.next (out ++ (if more.isEmpty then [way ++ [((to : Nat) : Int)]] else more), yo d + 2)) := fun more hm => by
                  unfold gameroomref_jumpsOn_J7 gameroomref_jumpsOn_J8
                  cases more with
                  | nil => rw [if_pos (by rfl), asrt_pos (by simp [bigR]; omega), J5]; rfl
                  | cons a r => rw [if_neg (by simp; omega), asrt_pos (by unfold bigR; omega), J5]; rfl
                cases hc : crownP s pc to with
                | true =>
                  rw [if_neg (by decide), J7 [] (by simp)]; rfl
                | false =>
                  have hrl := rem_lt (t := tof b s) m2 z2 z3
                  rw [if_pos (by decide), Ints_p (by omega), Option.bind_some, asrt_pos (by unfold bigN; omega)]
                  rw [IH to (way ++ [((to : Nat) : Int)]) (over ++ [((mid : Nat) : Int)]) (by omega) k2 (by omega) (by omega) (by omega) (by simp; omega) ?_ ?_ (by omega), Option.bind_some, J7 _ (JS_len hd4 _ _ _ _)]
                  · rfl
                  · rw [hlen, geti_bang (by omega), getElem!_pos _ _ (by omega), List.getElem_append_right (by omega)]
                    simp
                  · rw [← hst, show (0 : Int) = ((0 : Nat) : Int) from rfl, geti_bang (by omega), geti_bang (by omega), getElem!_pos _ _ (by omega), getElem!_pos _ _ (by omega), List.getElem_append_left (by omega)]
          · have hk : okJ (tof b s) st over p d = false := by unfold okJ; simp [z2]
            rw [show (!decide (tof b s (nx p d) < 0)) = true by simpa using z2, if_neg (by decide), Option.bind_some, asrt_pos (by simp), asrt_pos (by simp), if_pos (by simp), J5, hk, if_neg (by decide), List.append_nil]
    generalize hG : (fun d => if (dirsP s pc).contains d then GJ (tof b s) (crownP s pc) (dirsD s pc) st n p way over d else []) = G at *
    have hGe : ∀ d, (if (dirsP s pc).contains d then GJ (tof b s) (crownP s pc) (dirsD s pc) st n p way over d else []) = G d := fun d => by rw [← hG]
    have hGl : ∀ d, (G d).length ≤ 4 ^ n := fun d => by
      rw [← hGe]
      split
      · exact GJ_len hd4
      · simp
    have hJ : JS (tof b s) (crownP s pc) (dirsD s pc) st (n + 1) p way over = ((G 0 ++ G 2) ++ G 1) ++ G 3 := by
      rw [JS_succ]
      unfold dirsD
      rw [filter_flat]
      show [0, 2, 1, 3].flatMap (fun d => if (dirsP s pc).contains d then GJ (tof b s) (crownP s pc) (dirsD s pc) st n p way over d else []) = _
      rw [hG]
      simp
    have g0 := hGl 0
    have g1 := hGl 1
    have g2 := hGl 2
    have g3 := hGl 3
    -- a column of two
    have col : ∀ (d : Nat) (out : List (List Int)), d < 2 → out.length + 4 ^ n + 4 ^ n ≤ 4 * 4 ^ n → loop (gameroomref_jumpsOn_L2 (gameroomref_jumpsOn_mF n) b tn (s * pc) way over (xo d)) (out, -1) = some ((out ++ G d) ++ G (d + 2)) := fun d out hd hob => by
      have q1 := step d out (by omega) (by omega)
      have q2 := step (d + 2) (out ++ G d) (by omega) (by rw [List.length_append]; have := hGl d; omega)
      rw [hGe] at q1 q2
      have x2 : xo (d + 2) = xo d := by unfold xo; rw [Nat.add_mod_right]
      have yd : yo d = -1 := by unfold yo; rw [if_pos (by omega)]
      have yd2 : yo (d + 2) = 1 := by unfold yo; rw [if_neg (by omega)]
      rw [yd] at q1
      rw [yd2, x2] at q2
      refine loop_next (s' := (out ++ G d, 1)) ?_ (loop_next (s' := ((out ++ G d) ++ G (d + 2), 3)) ?_ (loop_done ?_) rfl) rfl
      · unfold gameroomref_jumpsOn_L2
        dsimp only
        rw [if_pos (by decide), q1]
        rfl
      · unfold gameroomref_jumpsOn_L2
        dsimp only
        rw [if_pos (by decide), q2]
        rfl
      · rfl
    show gameroomref_jumpsOn_B (gameroomref_jumpsOn_mF n) b tn (s * pc) way over = _
    unfold gameroomref_jumpsOn_B
    have c0 := col 0 [] (by omega) (by simp; omega)
    have c1 := col 1 (([] ++ G 0) ++ G 2) (by omega) (by simp; omega)
    rw [elast, asrt_pos (by omega), hJ]
    have : loop (gameroomref_jumpsOn_L1 (gameroomref_jumpsOn_mF n) b tn (s * pc) way over) (([] : List (List Int)), -1) = some (((([] ++ G 0) ++ G 2) ++ G 1) ++ G 3) := by
      refine loop_next (s' := (([] ++ G 0) ++ G 2, 1)) ?_ (loop_next (s' := (((([] ++ G 0) ++ G 2) ++ G 1) ++ G 3, 3)) ?_ (loop_done ?_) rfl) rfl
      · unfold gameroomref_jumpsOn_L1 gameroomref_jumpsOn_J2
        dsimp only
        rw [if_pos (by decide)]
        rw [show xo 0 = -1 from rfl] at c0
        rw [c0, Option.bind_some]
        rfl
      · unfold gameroomref_jumpsOn_L1 gameroomref_jumpsOn_J2
        dsimp only
        rw [if_pos (by decide)]
        rw [show xo 1 = 1 from rfl] at c1
        rw [c1, Option.bind_some]
        rfl
      · rfl
    rw [this, Option.bind_some]
    rfl
end
end Go.Proofs.Ytoickcchcjehdaa
