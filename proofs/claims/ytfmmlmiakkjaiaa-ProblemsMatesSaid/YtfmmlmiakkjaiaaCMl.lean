import Derived.Test.YtfmmlmiakkjaiaaCMj
import Derived.Test.YtfmmlmiakkjaiaaNMM
namespace Go.Proofs.Ytfmmlmiakkjaiaa
open Go Go.GL Go.RowKit
theorem two_any {s1 : Int → Option (St Int (Fl Unit Int))} {s2 : Int → Option (St Int (Fl Unit Bool))} (X : Bool) (len : Nat)
  (h : ∀ i : Nat, i < len → ∃ b : Bool, s1 (i : Int) = some (if b = true then .done (.ret (i : Int)) else .next ((i + 1 : Nat) : Int)) ∧ s2 (i : Int) = some (if b = true then .done (.ret X) else .next ((i + 1 : Nat) : Int)))
  (he : s1 (len : Int) = some (.done (.go ())) ∧ s2 (len : Int) = some (.done (.go ()))) :
  (∃ k : Nat, loop s1 0 = some (.ret (k : Int)) ∧ loop s2 0 = some (.ret X)) ∨ (loop s1 0 = some (.go ()) ∧ loop s2 0 = some (.go ())) := by
 have key : ∀ (r i : Nat), i + r = len → (∃ k : Nat, loop s1 (i : Int) = some (.ret (k : Int)) ∧ loop s2 (i : Int) = some (.ret X)) ∨ (loop s1 (i : Int) = some (.go ()) ∧ loop s2 (i : Int) = some (.go ())) := by
  intro r
  induction r with
  | zero =>
   intro i hi
   have : i = len := by omega
   subst this
   exact .inr ⟨loop_done he.1, loop_done he.2⟩
  | succ r ih =>
   intro i hi
   obtain ⟨b, e1, e2⟩ := h i (by omega)
   cases b with
   | true => exact .inl ⟨i, loop_done e1, loop_done e2⟩
   | false =>
    rcases ih (i + 1) (by omega) with ⟨k, l1, l2⟩ | ⟨l1, l2⟩
    ·exact .inl ⟨k, loop_next' e1 l1, loop_next' e2 l2⟩
    ·exact .inr ⟨loop_next' e1 l1, loop_next' e2 l2⟩
 exact key len 0 (by omega)
theorem two_list {s1 s2 : List Mv × Int → Option (St (List Mv × Int) (List Mv))} (len : Nat) (g : Nat → Mv)
  (h : ∀ i : Nat, i < len → ∃ b : Bool, ∀ l : List Mv, l.length ≤ i → s1 (l, (i : Int)) = some (.next (if b = true then l ++ [g i] else l, ((i + 1 : Nat) : Int))) ∧ s2 (l, (i : Int)) = some (.next (if b = true then l ++ [g i] else l, ((i + 1 : Nat) : Int))))
  (he : ∀ l, s1 (l, (len : Int)) = some (.done l) ∧ s2 (l, (len : Int)) = some (.done l)) :
  ∃ l : List Mv, l.length ≤ len ∧ loop s1 ([], 0) = some l ∧ loop s2 ([], 0) = some l := by
 have key : ∀ (r i : Nat) (l : List Mv), i + r = len → l.length ≤ i → ∃ l' : List Mv, l'.length ≤ len ∧ loop s1 (l, (i : Int)) = some l' ∧ loop s2 (l, (i : Int)) = some l' := by
  intro r
  induction r with
  | zero =>
   intro i l hi hl
   have : i = len := by omega
   subst this
   exact ⟨l, hl, loop_done (he l).1, loop_done (he l).2⟩
  | succ r ih =>
   intro i l hi hl
   obtain ⟨b, hb⟩ := h i (by omega)
   obtain ⟨e1, e2⟩ := hb l hl
   obtain ⟨l', hl', l1, l2⟩ := ih (i + 1) (if b = true then l ++ [g i] else l) (by omega) (by
    split
    ·rw [List.length_append, List.length_singleton]; omega
    ·omega)
   exact ⟨l', hl', loop_next' e1 l1, loop_next' e2 l2⟩
 exact key len 0 [] (by omega) (by simp)
theorem sameMoves_self {l : List Mv} (hl : l.length ≤ 1000000) : lw_sameMoves_m l l = some true := by
 unfold lw_sameMoves_m lw_sameMoves_J1
 rw [if_neg (by simp)]
 have : loop (lw_sameMoves_L1 l l) 0 = some (Fl.go ()) := by
  refine loop_from (fun n : Nat => (n : Int)) l.length rfl (fun i hi => ?_) ?_
  ·simp only [lw_sameMoves_L1]
   rw [if_pos (decide_eq_true (by omega))]
   unfold lw_sameMoves_J3 lw_sameMoves_J4
   rw [asrt_pos (by omega), asrt_pos (by omega), if_neg (by simp), w64_succ (by omega)]
   rfl
  ·simp only [lw_sameMoves_L1]
   exact if_neg (by simp)
 rw [this, Option.bind_some]
 rfl
theorem sameInts_self {l : List Int} (hl : l.length ≤ 1000000) : lw_sameInts_m l l = some true := by
 unfold lw_sameInts_m lw_sameInts_J1
 rw [if_neg (by simp)]
 have : loop (lw_sameInts_L1 l l) 0 = some (Fl.go ()) := by
  refine loop_from (fun n : Nat => (n : Int)) l.length rfl (fun i hi => ?_) ?_
  ·simp only [lw_sameInts_L1]
   rw [if_pos (decide_eq_true (by omega))]
   unfold lw_sameInts_J3 lw_sameInts_J4
   rw [asrt_pos (by omega), asrt_pos (by omega), if_neg (by simp), w64_succ (by omega)]
   rfl
  ·simp only [lw_sameInts_L1]
   exact if_neg (by simp)
 rw [this, Option.bind_some]
 rfl
section
variable {p : List Int} {t c e h f : Int}
theorem Inv.king (I : Inv p t c e h f) (s : Int) (hs : s = 0 ∨ s = 1) : ∃ b : Nat, b < 64 ∧ geti p b = kingV s := by
 obtain ⟨k, h1, h2⟩ := I.kg s hs
 exact ⟨k, h1, (h2 k h1).2 rfl⟩
theorem forced_both : ∀ (n : Nat) (p : List Int) (t c e h f : Int), n ≤ 1 → Inv p t c e h f → ∀ m ∈ refL p t c e, ∃ q t' c' e' h' f', rf_MoveDone_m p t c e h f m.1 m.2.1 m.2.2 = some (q, t', c', e', h', f') ∧
  ∃ b : Bool, problems_forced_mF (n + 1) p t c e h f m.1 m.2.1 m.2.2 ((n + 1 : Nat) : Int) = some b ∧ rf_movesMates_mF (n + 1) q t' c' e' h' f' ((n + 1 : Nat) : Int) = some b
 | n, p, t, c, e, h, f, hn, I, m, hm => by
  obtain ⟨q, t', c', e', h', f', a1, a2, I', _⟩ := step_p I hm
  refine ⟨q, t', c', e', h', f', a2, ?_⟩
  have hck := check_both I'.sm I'.tt (I'.king t' I'.tt)
  have hrl := refL_len I'
  have eF : problems_forced_mF (n + 1) p t c e h f m.1 m.2.1 m.2.2 ((n + 1 : Nat) : Int) = problems_forced_B (problems_forced_mF n) p t c e h f m.1 m.2.1 m.2.2 ((n + 1 : Nat) : Int) := rfl
  have eR : rf_movesMates_mF (n + 1) q t' c' e' h' f' ((n + 1 : Nat) : Int) = rf_movesMates_B (rf_movesMates_mF n) q t' c' e' h' f' ((n + 1 : Nat) : Int) := rfl
  rw [eF, eR]
  unfold problems_forced_B rf_movesMates_B
  rw [a1, all_p I']
  simp only [Option.bind_some]
  rw [moves_p I']
  simp only [Option.bind_some]
  rw [hck.1, hck.2]
  by_cases h0 : (refL q t' c' e').length = 0
  ·have e0 : (((refL q t' c' e').length : Int) == 0) = true := by simp [h0]
   rw [e0]
   exact ⟨_, rfl, rfl⟩
  ·have e0 : (((refL q t' c' e').length : Int) == 0) = false := by simpa using h0
   rw [e0]
   simp only [Bool.false_eq_true, if_false]
   unfold problems_forced_J1 rf_movesMates_J1
   match n, hn with
   | 0, _ => exact ⟨false, rfl, rfl⟩
   | 1, _ =>
    have hd1 : decide ((1 : Int) < ((1 + 1 : Nat) : Int)) = true := by decide
    have hd2 : (((1 + 1 : Nat) : Int) == 1) = false := by decide
    rw [hd1, hd2]
    simp only [if_true, Bool.false_eq_true, if_false, Bool.true_and]
    unfold api_Move_3_m api_Move_4_m rf_movesMates_J2
    have hw : w64 (((1 + 1 : Nat) : Int) - 1) = ((0 + 1 : Nat) : Int) := by decide
    have hmain := two_any (s1 := api_Move_4_L1 (problems_forced_mF 1) (refL q t' c' e') q t' c' e' h' f' ((1 + 1 : Nat) : Int)) (s2 := rf_movesMates_L1 (rf_movesMates_mF 1) q t' c' e' h' f' ((1 + 1 : Nat) : Int) (refL q t' c' e')) false (refL q t' c' e').length (fun i hi => by
     obtain ⟨r, hr⟩ : ∃ r, (refL q t' c' e')[i]? = some r := ⟨_, List.getElem?_eq_getElem hi⟩
     have hg : getd ((0, 0, 0) : Int × Int × Int) (refL q t' c' e') (i : Int) = r := getd_some hr
     obtain ⟨q2, t2, c2, e2, h2, f2, b1, b2, I2, _⟩ := step_p I' (List.mem_of_getElem? hr)
     have hrl2 := refL_len I2
     have hin := two_any (s1 := api_Move_6_L1 (problems_forced_mF 1) (refL q2 t2 c2 e2) q2 t2 c2 e2 h2 f2 ((1 + 1 : Nat) : Int)) (s2 := rf_MatesIn_L1 (rf_movesMates_mF 1) q2 t2 c2 e2 h2 f2 ((0 + 1 : Nat) : Int) (refL q2 t2 c2 e2)) true (refL q2 t2 c2 e2).length (fun j hj => by
      obtain ⟨x, hx⟩ : ∃ x, (refL q2 t2 c2 e2)[j]? = some x := ⟨_, List.getElem?_eq_getElem hj⟩
      have hgx : getd ((0, 0, 0) : Int × Int × Int) (refL q2 t2 c2 e2) (j : Int) = x := getd_some hx
      obtain ⟨q3, t3, c3, e3, h3, f3, d2, b, r1, r2⟩ := forced_both 0 q2 t2 c2 e2 h2 f2 (by omega) I2 x (List.mem_of_getElem? hx)
      refine ⟨b, ?_, ?_⟩
      ·simp only [api_Move_6_L1]
       rw [if_pos (decide_eq_true (by omega))]
       unfold api_Move_6_J2 api_Move_6_J3 problems_forced_1_1_m
       rw [asrt_pos (by omega), hgx, hw, r1]
       simp only [Option.bind_some]
       rw [w64_succ (by omega)]
       cases b <;> rfl
      ·simp only [rf_MatesIn_L1]
       rw [if_pos (decide_eq_true (by omega))]
       unfold rf_MatesIn_J2 rf_MatesIn_J3
       rw [asrt_pos (by omega), hgx, d2]
       simp only [Option.bind_some]
       rw [r2]
       simp only [Option.bind_some]
       rw [w64_succ (by omega)]
       cases b <;> rfl) ⟨by simp only [api_Move_6_L1]; exact if_neg (by simp), by simp only [rf_MatesIn_L1]; exact if_neg (by simp)⟩
     have hb : ∃ b : Bool, problems_forced_1_m (problems_forced_mF 1) r.1 r.2.1 r.2.2 q t' c' e' h' f' ((1 + 1 : Nat) : Int) = some b ∧ rf_MatesIn_m (rf_movesMates_mF 1) q2 t2 c2 e2 h2 f2 ((0 + 1 : Nat) : Int) = some (!b) := by
      unfold problems_forced_1_m rf_MatesIn_m api_Move_5_m api_Move_6_m
      rw [b1]
      simp only [Option.bind_some]
      rw [moves_p I2, all_p I2]
      simp only [Option.bind_some]
      rcases hin with ⟨k, l1, l2⟩ | ⟨l1, l2⟩
      ·rw [l1, l2]
       refine ⟨false, ?_, rfl⟩
       simp only [Option.bind_some, api_Move_6_K1]
       rw [decide_eq_true (by omega : (0 : Int) ≤ (k : Int))]
       rfl
      ·rw [l1, l2]
       exact ⟨true, rfl, rfl⟩
     obtain ⟨b, r1, r2⟩ := hb
     refine ⟨b, ?_, ?_⟩
     ·simp only [api_Move_4_L1]
      rw [if_pos (decide_eq_true (by omega))]
      unfold api_Move_4_J2 api_Move_4_J3
      rw [asrt_pos (by omega), hg, r1]
      simp only [Option.bind_some]
      rw [w64_succ (by omega)]
      cases b <;> rfl
     ·simp only [rf_movesMates_L1]
      rw [if_pos (decide_eq_true (by omega))]
      unfold rf_movesMates_J4 rf_movesMates_J5
      rw [asrt_pos (by omega), hg, b2]
      simp only [Option.bind_some]
      rw [hw, r2]
      simp only [Option.bind_some]
      rw [w64_succ (by omega)]
      cases b <;> rfl) ⟨by simp only [api_Move_4_L1]; exact if_neg (by simp), by simp only [rf_movesMates_L1]; exact if_neg (by simp)⟩
    rcases hmain with ⟨k, l1, l2⟩ | ⟨l1, l2⟩
    ·rw [l1, l2]
     refine ⟨false, ?_, rfl⟩
     simp only [Option.bind_some, api_Move_4_K1]
     rw [decide_eq_true (by omega : (0 : Int) ≤ (k : Int))]
     rfl
    ·rw [l1, l2]
     exact ⟨true, rfl, rfl⟩
theorem keys_both (I : Inv p t c e h f) {n : Nat} (hn : n ≤ 1) : ∃ l : List Mv, l.length ≤ 20000 ∧ loop (problems_Mate_L2 p t c e h f ((n + 1 : Nat) : Int) (refL p t c e)) ([], 0) = some l ∧ loop (rf_MateOf_L2 p t c e h f (refL p t c e) ((n + 1 : Nat) : Int)) ([], 0) = some l := by
 have hrl := refL_len I
 obtain ⟨l, h1, h2, h3⟩ := two_list (s1 := problems_Mate_L2 p t c e h f ((n + 1 : Nat) : Int) (refL p t c e)) (s2 := rf_MateOf_L2 p t c e h f (refL p t c e) ((n + 1 : Nat) : Int)) (refL p t c e).length (fun i => getd ((0, 0, 0) : Int × Int × Int) (refL p t c e) (i : Int)) (fun i hi => by
  obtain ⟨m, hm⟩ : ∃ m, (refL p t c e)[i]? = some m := ⟨_, List.getElem?_eq_getElem hi⟩
  have hg : getd ((0, 0, 0) : Int × Int × Int) (refL p t c e) (i : Int) = m := getd_some hm
  obtain ⟨q, t', c', e', h', f', a2, b, r1, r2⟩ := forced_both n p t c e h f hn I m (List.mem_of_getElem? hm)
  have r1' := problems_forced_m_of _ _ _ _ _ _ _ _ _ _ _ r1
  have r2' := rf_movesMates_m_of _ _ _ _ _ _ _ _ r2
  refine ⟨b, fun l hl => ⟨?_, ?_⟩⟩
  ·simp only [problems_Mate_L2]
   rw [if_pos (decide_eq_true (by omega))]
   unfold problems_Mate_J6 problems_Mate_J7
   rw [asrt_pos (by omega), hg, r1']
   simp only [Option.bind_some]
   rw [asrt_pos (by unfold bigK; omega), w64_succ (by omega)]
   cases b <;> rfl
  ·simp only [rf_MateOf_L2]
   rw [if_pos (decide_eq_true (by omega))]
   unfold rf_MateOf_J5 rf_MateOf_J6
   rw [asrt_pos (by omega), hg, a2]
   simp only [Option.bind_some]
   rw [r2']
   simp only [Option.bind_some]
   rw [asrt_pos (by omega), asrt_pos (by unfold bigK; omega), w64_succ (by omega)]
   cases b <;> rfl) (fun l => ⟨by simp only [problems_Mate_L2]; exact if_neg (by simp), by simp only [rf_MateOf_L2]; exact if_neg (by simp)⟩)
 exact ⟨l, by omega, h2, h3⟩
theorem mate_both (I : Inv p t c e h f) {most : Int} (hm : 1 ≤ most ∧ most ≤ 2) : ∃ (n : Int) (l : List Mv), l.length ≤ 20000 ∧ problems_Mate_J1 p t c e h f most = some (n, l, 0) ∧ rf_MateOf_m p t c e h f most = some (n, l) := by
 unfold problems_Mate_J1 rf_MateOf_m
 rw [all_p I, Option.bind_some]
 have turn : ∀ n : Nat, n ≤ 1 → ((n + 1 : Nat) : Int) ≤ most → (∃ l : List Mv, l.length ≤ 20000 ∧ problems_Mate_L1 p t c e h f most ((n + 1 : Nat) : Int) = some (.done (.ret (((n + 1 : Nat) : Int), l, 0))) ∧ rf_MateOf_L1 p t c e h f most (refL p t c e) ((n + 1 : Nat) : Int) = some (.done (.ret (((n + 1 : Nat) : Int), l)))) ∨
   (problems_Mate_L1 p t c e h f most ((n + 1 : Nat) : Int) = some (.next ((n + 2 : Nat) : Int)) ∧ rf_MateOf_L1 p t c e h f most (refL p t c e) ((n + 1 : Nat) : Int) = some (.next ((n + 2 : Nat) : Int))) := by
  intro n hn hle
  obtain ⟨l, hl, l1, l2⟩ := keys_both I hn
  simp only [problems_Mate_L1, rf_MateOf_L1]
  rw [if_pos (decide_eq_true hle), if_pos (decide_eq_true hle)]
  unfold problems_Mate_J3 rf_MateOf_J2
  rw [moves_p I, Option.bind_some, l1, l2]
  simp only [Option.bind_some, problems_Mate_K2, rf_MateOf_K2]
  unfold problems_Mate_J5 rf_MateOf_J4 problems_Mate_J4 rf_MateOf_J3
  have hw : w64 (((n + 1 : Nat) : Int) + 1) = ((n + 2 : Nat) : Int) := by rw [w64_of (by omega)]; omega
  rw [hw]
  by_cases h0 : 0 < l.length
  ·left
   rw [if_pos (decide_eq_true (by omega)), if_pos (decide_eq_true (by omega))]
   exact ⟨l, hl, rfl, rfl⟩
  ·right
   rw [if_neg (by rw [decide_eq_true_eq]; omega), if_neg (by rw [decide_eq_true_eq]; omega)]
   exact ⟨rfl, rfl⟩
 have stop : ∀ n : Nat, most < (n : Int) → problems_Mate_L1 p t c e h f most (n : Int) = some (.done (.go ())) ∧ rf_MateOf_L1 p t c e h f most (refL p t c e) (n : Int) = some (.done (.go ())) := by
  intro n hn
  simp only [problems_Mate_L1, rf_MateOf_L1]
  exact ⟨if_neg (by rw [decide_eq_true_eq]; omega), if_neg (by rw [decide_eq_true_eq]; omega)⟩
 rcases turn 0 (by omega) (by omega) with ⟨l, hl, e1, e2⟩ | ⟨e1, e2⟩
 ·refine ⟨((0 + 1 : Nat) : Int), l, hl, ?_, ?_⟩
  ·rw [show (1 : Int) = ((0 + 1 : Nat) : Int) from rfl, loop_done e1]; rfl
  ·rw [show (1 : Int) = ((0 + 1 : Nat) : Int) from rfl, loop_done e2]; rfl
 ·by_cases h2 : most = 2
  ·rcases turn 1 (by omega) (by omega) with ⟨l, hl, d1, d2⟩ | ⟨d1, d2⟩
   ·refine ⟨((1 + 1 : Nat) : Int), l, hl, ?_, ?_⟩
    ·rw [show (1 : Int) = ((0 + 1 : Nat) : Int) from rfl, loop_next' e1 (loop_done d1)]; rfl
    ·rw [show (1 : Int) = ((0 + 1 : Nat) : Int) from rfl, loop_next' e2 (loop_done d2)]; rfl
   ·have s := stop 3 (by omega)
    refine ⟨0, [], by simp, ?_, ?_⟩
    ·rw [show (1 : Int) = ((0 + 1 : Nat) : Int) from rfl, loop_next' e1 (loop_next' d1 (loop_done s.1))]; rfl
    ·rw [show (1 : Int) = ((0 + 1 : Nat) : Int) from rfl, loop_next' e2 (loop_next' d2 (loop_done s.2))]; rfl
  ·have s := stop 2 (by omega)
   refine ⟨0, [], by simp, ?_, ?_⟩
   ·rw [show (1 : Int) = ((0 + 1 : Nat) : Int) from rfl, loop_next' e1 (loop_done s.1)]; rfl
   ·rw [show (1 : Int) = ((0 + 1 : Nat) : Int) from rfl, loop_next' e2 (loop_done s.2)]; rfl
theorem marks_run : ∀ (L : List Nat) (l : List Bool), l.length = 64 → (∀ x ∈ L, x < 64) → ydRun (ydOf (fun x s => problems_Covered_L2 (x, s))) L (.next l) = some (.go (.next (L.foldl (fun a x => a.set x true) l)))
 | [], _, _, _ => rfl
 | x :: L, l, hl, hx => by
  have e0 : ydRun (ydOf (fun x s => problems_Covered_L2 (x, s))) (x :: L) (.next l) = ((ydOf (fun x s => problems_Covered_L2 (x, s)) (x : Int) (.next l)).bind fun q => if q.2 = true then ydRun (ydOf (fun x s => problems_Covered_L2 (x, s))) L q.1 else some (.ret q.1)) := rfl
  have hx0 := hx x (by simp)
  have e1 : ydOf (fun x s => problems_Covered_L2 (x, s)) (x : Int) (.next l) = some (.next (l.set x true), true) := by
   simp only [ydOf, problems_Covered_L2]
   rw [asrt_pos (by omega), asrt_pos (by omega), Int.toNat_natCast]
   rfl
  rw [e0, e1, Option.bind_some, if_pos rfl]
  exact marks_run L (l.set x true) (by simpa using hl) (fun y hy => hx y (by simp [hy]))
theorem marks_len : ∀ (L : List Nat) (l : List Bool), (L.foldl (fun a x => a.set x true) l).length = l.length
 | [], _ => rfl
 | x :: L, l => by rw [List.foldl_cons, marks_len L]; simp
theorem getb_nat (l : List Bool) (i : Nat) : getb l (i : Int) = l.getD i false := by simp [getb]
theorem marks_get (x : Nat) : ∀ (L : List Nat) (l : List Bool), x < l.length → getb (L.foldl (fun a x => a.set x true) l) (x : Int) = (getb l (x : Int) || L.contains x)
 | [], l, _ => by simp
 | y :: L, l, hx => by
  rw [List.foldl_cons, marks_get x L (l.set y true) (by simpa using hx), getb_nat, getb_nat, List.contains_cons]
  by_cases hxy : x = y
  ·subst hxy
   rw [List.getD_eq_getElem?_getD, List.getElem?_set_self hx]
   simp
  ·rw [List.getD_eq_getElem?_getD, List.getElem?_set_ne (Ne.symm hxy), ← List.getD_eq_getElem?_getD]
   have : (x == y) = false := by simpa using hxy
   rw [this, Bool.false_or]
def covB (p : List Int) (by1 : Int) (n x : Nat) : Bool := (List.range n).any (fun (i : Nat) => sideI (geti p i) == by1 && (reachL p i).contains x)
theorem cov_marks (I : Inv p t c e h f) (by1 : Int) : ∃ l : List Bool, l.length = 64 ∧ (∀ x : Nat, x < 64 → getb l (x : Int) = covB p by1 64 x) ∧ loop (problems_Covered_L1 p by1) (List.replicate 64 false, 0) = some l := by
 have hlen := I.len
 have key := count_loop (step := problems_Covered_L1 p by1) (fun (l : List Bool) (n : Nat) => (l, (n : Int))) (fun n l => l.length = 64 ∧ ∀ x : Nat, x < 64 → getb l (x : Int) = covB p by1 n x) (fun r => r.length = 64 ∧ ∀ x : Nat, x < 64 → getb r (x : Int) = covB p by1 64 x) 64 (List.replicate 64 false) ⟨by simp, fun x hx => by
  rw [getb_nat, List.getD_eq_getElem?_getD, List.getElem?_replicate]
  split <;> rfl⟩ (by
  rintro n l hn ⟨hl, hg⟩
  left
  simp only [problems_Covered_L1]
  rw [if_pos (decide_eq_true (by omega))]
  unfold problems_Covered_J3 problems_Covered_J4
  rw [asrt_pos (by omega), side_eq, Option.bind_some, w64_succ (by omega)]
  have hcov : ∀ x, covB p by1 (n + 1) x = (covB p by1 n x || (sideI (geti p n) == by1 && (reachL p n).contains x)) := by
   intro x
   unfold covB
   rw [List.range_succ, List.any_append]
   simp
  by_cases hs : sideI (geti p n) = by1
  ·rw [if_pos (by simp [hs])]
   show ∃ s', ((some (n : Int) : Option Int).bind fun r3 => (board_Reach_1_m (ydOf (fun x s => problems_Covered_L2 (x, s))) (.next l) p r3).bind (problems_Covered_K2 n)) = _ ∧ _
   rw [Option.bind_some, reach_run hlen hn (I.sm.2 n hn) (marks_run (reachL p n) l hl (fun x hx => reach_lt hx)), Option.bind_some]
   simp only [flV, problems_Covered_K2, problems_Covered_J4]
   rw [w64_succ (by omega)]
   refine ⟨_, rfl, by rw [marks_len]; exact hl, fun x hx => ?_⟩
   rw [marks_get x _ _ (by omega), hg x hx, hcov, hs]
   simp
  ·rw [if_neg (by simpa using hs)]
   refine ⟨l, rfl, hl, fun x hx => ?_⟩
   rw [hg x hx, hcov]
   have : (sideI (geti p n) == by1) = false := by simpa using hs
   rw [this]; simp) (by
  rintro l ⟨hl, hg⟩
  refine ⟨l, ?_, hl, hg⟩
  simp only [problems_Covered_L1]
  rw [if_neg (by rw [hlen]; simp)])
 obtain ⟨r, h1, h2, h3⟩ := key
 exact ⟨r, h2, h3, h1⟩
theorem cov_att (I : Inv p t c e h f) {by1 : Int} (hb : by1 = 0 ∨ by1 = 1) (x : Nat) : covB p by1 64 x = decide (0 < (attL p x by1 64).length) := by
 rw [Bool.eq_iff_iff, decide_eq_true_eq]
 unfold covB
 rw [List.any_eq_true]
 constructor
 ·rintro ⟨i, hi, h⟩
  rw [Bool.and_eq_true, beq_iff_eq] at h
  have hc : x ∈ reachL p i := by simpa using h.2
  have hnz : geti p i ≠ 0 := side_ne hb h.1
  exact List.length_pos_of_mem (attL_mem.2 ⟨List.mem_range.1 hi, h.1, (reach_att hnz).1 hc⟩)
 ·intro h
  obtain ⟨y, hy⟩ := List.exists_mem_of_length_pos h
  have hy2 := hy
  unfold attL at hy2
  obtain ⟨i, _, rfl⟩ := List.mem_map.1 hy2
  obtain ⟨h1, h2, h3⟩ := attL_mem.1 hy
  refine ⟨i, List.mem_range.2 h1, ?_⟩
  rw [Bool.and_eq_true, beq_iff_eq]
  exact ⟨h2, by simpa using (reach_att (side_ne hb h2)).2 h3⟩
def covL (p : List Int) (by1 : Int) (n : Nat) : List Int := ((List.range n).filter (fun x => covB p by1 64 x)).map (fun (x : Nat) => (x : Int))
theorem covL_len (p : List Int) (by1 : Int) (n : Nat) : (covL p by1 n).length ≤ n := by
 unfold covL
 rw [List.length_map]
 exact Nat.le_trans (List.length_filter_le _ _) (by simp)
theorem covL_succ (p : List Int) (by1 : Int) (n : Nat) : covL p by1 (n + 1) = if covB p by1 64 n = true then covL p by1 n ++ [(n : Int)] else covL p by1 n := by
 unfold covL
 rw [List.range_succ, List.filter_append, List.map_append]
 by_cases h : covB p by1 64 n = true
 ·rw [if_pos h]; simp [h]
 ·rw [if_neg h]; simp [h]
theorem covered_both (I : Inv p t c e h f) {by1 : Int} (hb : by1 = 0 ∨ by1 = 1) : problems_Covered_J1 p by1 = some (covL p by1 64, 0) ∧ rf_CoveredOf_m p t c e h f by1 = some (covL p by1 64) := by
 obtain ⟨l, hl, hg, hloop⟩ := cov_marks I by1
 constructor
 ·unfold problems_Covered_J1
  rw [hloop, Option.bind_some]
  simp only [problems_Covered_K1]
  unfold problems_Covered_J2
  have h2 : loop (problems_Covered_L3 l) ([], 0) = some (covL p by1 64) := by
   refine loop_from (fun n : Nat => (covL p by1 n, (n : Int))) 64 rfl (fun i hi => ?_) ?_
   ·have hcl := covL_len p by1 i
    simp only [problems_Covered_L3]
    rw [if_pos (decide_eq_true (by omega))]
    unfold problems_Covered_J6 problems_Covered_J7
    rw [asrt_pos (by omega), hg i hi, asrt_pos (by unfold bigN; omega), w64_succ (by omega), covL_succ]
    cases covB p by1 64 i <;> rfl
   ·simp only [problems_Covered_L3]
    exact if_neg (by decide)
  rw [h2]
  rfl
 ·unfold rf_CoveredOf_m
  have h2 : loop (rf_CoveredOf_L1 p by1) ([], 0) = some (covL p by1 64) := by
   refine loop_from (fun n : Nat => (covL p by1 n, (n : Int))) 64 rfl (fun i hi => ?_) ?_
   ·have hcl := covL_len p by1 i
    simp only [rf_CoveredOf_L1]
    rw [if_pos (decide_eq_true (by omega))]
    unfold rf_CoveredOf_J2 rf_CoveredOf_J3
    rw [attackers_r I.sm hi hb, Option.bind_some, asrt_pos (by unfold bigN; omega), w64_succ (by omega), covL_succ, cov_att I hb]
    by_cases h0 : 0 < (attL p i by1 64).length
    ·rw [decide_eq_true h0, if_pos (decide_eq_true (by omega))]; rfl
    ·rw [decide_eq_false h0, if_neg (by rw [decide_eq_true_eq]; omega)]; rfl
   ·simp only [rf_CoveredOf_L1]
    exact if_neg (by decide)
  rw [h2]
  rfl
theorem true_ProblemsMates (p : List Int) (p2 p3 p4 p5 p6 most by1 : Int) (hl : p.length ≤ 17592186043904) (hin : ∀ y ∈ p, inI y) (_h2 : inI p2) (_h3 : inI p3) (_h4 : inI p4) (_h5 : inI p5) (_h6 : inI p6) (_h7 : inI most) (_h8 : inI by1) : lw_ProblemsMates_m p p2 p3 p4 p5 p6 most by1 = some true := by
 unfold lw_ProblemsMates_m
 rw [chessOf_any hl]
 simp only [Option.bind_some]
 obtain ⟨b, q1, q2, _⟩ := may_both hin p2 p3 p4 p5 p6
 cases b with
 | false =>
  unfold problems_Mate_m problems_Covered_m
  rw [q1, q2]
  rfl
 | true =>
  have I := may_inv hin q1
  unfold problems_Mate_m problems_Covered_m
  rw [q1, q2]
  simp only [Option.bind_some, Bool.not_true, Bool.false_eq_true, if_false]
  have hmate : ∃ r : Int × List Mv × Int, (if (decide (most < 1) || decide ((2 : Int) < most)) = true then some (0, ([] : List Mv), 3) else problems_Mate_J1 p p2 p3 p4 p5 p6 most) = some r ∧ lw_ProblemsMates_J2 p p2 p3 p4 p5 p6 most r = some true := by
   by_cases hm : (decide (most < 1) || decide ((2 : Int) < most)) = true
   ·rw [if_pos hm]
    refine ⟨_, rfl, ?_⟩
    unfold lw_ProblemsMates_J2
    rw [if_pos hm]
    rfl
   ·rw [if_neg hm]
    simp only [Bool.or_eq_true, decide_eq_true_eq] at hm
    obtain ⟨n, l, hll, m1, m2⟩ := mate_both I (most := most) (by omega)
    refine ⟨_, m1, ?_⟩
    unfold lw_ProblemsMates_J2 lw_ProblemsMates_J4
    rw [if_neg (by simp only [Bool.or_eq_true, decide_eq_true_eq]; exact hm), m2]
    simp only [Option.bind_some]
    rw [if_pos (by simp), sameMoves_self (by omega)]
    simp
  obtain ⟨r, m1, m2⟩ := hmate
  rw [m1]
  simp only [Option.bind_some]
  by_cases hby : (decide (by1 < 0) || decide ((1 : Int) < by1)) = true
  ·rw [if_pos hby]
   simp only [Option.bind_some]
   unfold lw_ProblemsMates_J1
   rw [if_pos hby, if_neg (by simp), m2]
  ·rw [if_neg hby]
   have hb : by1 = 0 ∨ by1 = 1 := by simp only [Bool.or_eq_true, decide_eq_true_eq] at hby; omega
   obtain ⟨c1, c2⟩ := covered_both I hb
   rw [c1]
   simp only [Option.bind_some]
   unfold lw_ProblemsMates_J1
   rw [if_neg hby, if_neg (by simp), c2]
   simp only [Option.bind_some]
   rw [if_pos (by simp), sameInts_self (by have := covL_len p by1 64; omega)]
   unfold lw_ProblemsMates_J3
   simp only [Option.bind_some]
   rw [if_neg (by simp), m2]
end
end Go.Proofs.Ytfmmlmiakkjaiaa
