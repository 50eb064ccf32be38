import Derived.Test.YtfmmlmiakkjaiaaCMm
namespace Go.Proofs.Ytfmmlmiakkjaiaa
open Go Go.GL Go.RowKit
abbrev BSt := Int × Int × Int × Int × Int
abbrev BOut := Int × Mv
def bst (a : Int) (w : Mv) (i : Nat) : BSt := (a, w.1, w.2.1, w.2.2, (i : Int))
theorem ref_loop {s2 : BSt → Option (St BSt BOut)} (len : Nat) (g : Nat → Mv) (sc : Nat → Int) (hsc : ∀ i, i < len → -1000 ≤ sc i ∧ sc i ≤ 1000)
  (h2 : ∀ i, i < len → ∀ (b : Int) (w : Mv), s2 (bst b w i) = some (.next (if b < sc i then bst (sc i) (g i) (i + 1) else bst b w (i + 1))))
  (e2 : ∀ (b : Int) (w : Mv), s2 (bst b w len) = some (.done (b, w))) :
  ∀ (r i : Nat) (b : Int) (w : Mv), i + r = len → -1000 ≤ b → b ≤ 1000 → ∃ v z, loop s2 (bst b w i) = some (v, z) ∧ b ≤ v ∧ v ≤ 1000
 | 0, i, b, w, hi, h1, hb => by
  have : i = len := by omega
  subst this
  exact ⟨b, w, loop_done (e2 b w), by omega, hb⟩
 | r + 1, i, b, w, hi, h1, hb => by
  have e := h2 i (by omega) b w
  have hs := hsc i (by omega)
  by_cases hlt : b < sc i
  ·rw [if_pos hlt] at e
   obtain ⟨v, z, l, v1, v2⟩ := ref_loop len g sc hsc h2 e2 r (i + 1) (sc i) (g i) (by omega) (by omega) (by omega)
   exact ⟨v, z, loop_next' e l, by omega, v2⟩
  ·rw [if_neg hlt] at e
   obtain ⟨v, z, l, v1, v2⟩ := ref_loop len g sc hsc h2 e2 r (i + 1) b w (by omega) h1 hb
   exact ⟨v, z, loop_next' e l, v1, v2⟩
theorem ab_loop {s1 s2 : BSt → Option (St BSt BOut)} (low high : Int) (hlh : low < high) (len : Nat) (g : Nat → Mv) (sc : Nat → Int) (hsc : ∀ i, i < len → -1000 ≤ sc i ∧ sc i ≤ 1000)
  (h1 : ∀ i, i < len → ∀ (a : Int) (w : Mv), (a = -10000 ∨ (-1000 ≤ a ∧ a ≤ 1000)) → a < high → ∃ s : Int, -1000 ≤ s ∧ s ≤ 1000 ∧ (low < s → a < s → s ≤ sc i) ∧ (s < high → sc i ≤ s) ∧
   s1 (bst a w i) = some (if a < s then (if high ≤ s then .done (s, g i) else .next (bst s (g i) (i + 1))) else .next (bst a w (i + 1))))
  (e1 : ∀ (b : Int) (w : Mv), s1 (bst b w len) = some (.done (b, w)))
  (h2 : ∀ i, i < len → ∀ (b : Int) (w : Mv), s2 (bst b w i) = some (.next (if b < sc i then bst (sc i) (g i) (i + 1) else bst b w (i + 1))))
  (e2 : ∀ (b : Int) (w : Mv), s2 (bst b w len) = some (.done (b, w))) (hlen : 0 < len) :
  ∀ (r i : Nat) (a b : Int) (w x : Mv), i + r = len → a < high → ((i = 0 ∧ a = -10000 ∧ b = -5000) ∨ (-1000 ≤ a ∧ a ≤ 1000 ∧ -1000 ≤ b ∧ b ≤ 1000 ∧ b ≤ a ∧ (low < a → a ≤ b))) → (low < -1000 → 1000 < high → w = x) →
   ∃ s y v z, loop s1 (bst a w i) = some (s, y) ∧ loop s2 (bst b x i) = some (v, z) ∧ -1000 ≤ s ∧ s ≤ 1000 ∧ -1000 ≤ v ∧ v ≤ 1000 ∧ (s < high → v ≤ s) ∧ (low < s → s ≤ v) ∧ (low < -1000 → 1000 < high → y = z)
 | 0, i, a, b, w, x, hi, ha, hI, hw => by
  have : i = len := by omega
  subst this
  rcases hI with ⟨h0, _⟩ | ⟨q1, q2, q3, q4, q5, q6⟩
  ·omega
  ·exact ⟨a, w, b, x, loop_done (e1 a w), loop_done (e2 b x), q1, q2, q3, q4, fun _ => q5, q6, hw⟩
 | r + 1, i, a, b, w, x, hi, ha, hI, hw => by
  have hs := hsc i (by omega)
  obtain ⟨s, b1, b2, t1, t2, f1⟩ := h1 i (by omega) a w (by rcases hI with h | h; exact .inl h.2.1; exact .inr ⟨h.1, h.2.1⟩) ha
  have f2 := h2 i (by omega) b x
  by_cases has : a < s
  ·rw [if_pos has] at f1
   by_cases hcut : high ≤ s
   ·rw [if_pos hcut] at f1
    have hv : s ≤ sc i := t1 (by omega) has
    by_cases hbs : b < sc i
    ·rw [if_pos hbs] at f2
     obtain ⟨v, z, l, v1, v2⟩ := ref_loop len g sc hsc h2 e2 r (i + 1) (sc i) (g i) (by omega) (by omega) (by omega)
     exact ⟨s, g i, v, z, loop_done f1, loop_next' f2 l, b1, b2, by omega, v2, by omega, by omega, by omega⟩
    ·rw [if_neg hbs] at f2
     obtain ⟨v, z, l, v1, v2⟩ := ref_loop len g sc hsc h2 e2 r (i + 1) b x (by omega) (by omega) (by omega)
     exact ⟨s, g i, v, z, loop_done f1, loop_next' f2 l, b1, b2, by omega, v2, by omega, by omega, by omega⟩
   ·rw [if_neg hcut] at f1
    have hle : sc i ≤ s := t2 (by omega)
    by_cases hbs : b < sc i
    ·rw [if_pos hbs] at f2
     obtain ⟨s', y, v, z, l1, l2, rest⟩ := ab_loop low high hlh len g sc hsc h1 e1 h2 e2 hlen r (i + 1) s (sc i) (g i) (g i) (by omega) (by omega) (.inr ⟨b1, b2, hs.1, hs.2, hle, fun hl => t1 hl has⟩) (fun _ _ => rfl)
     exact ⟨s', y, v, z, loop_next' f1 l1, loop_next' f2 l2, rest⟩
    ·rw [if_neg hbs] at f2
     have hI' : -1000 ≤ a ∧ a ≤ 1000 ∧ -1000 ≤ b ∧ b ≤ 1000 ∧ b ≤ a ∧ (low < a → a ≤ b) := by
      rcases hI with h | h
      ·omega
      ·exact h
     obtain ⟨q1, q2, q3, q4, q5, q6⟩ := hI'
     obtain ⟨s', y, v, z, l1, l2, rest⟩ := ab_loop low high hlh len g sc hsc h1 e1 h2 e2 hlen r (i + 1) s b (g i) x (by omega) (by omega) (.inr ⟨b1, b2, q3, q4, by omega, fun hl => by have := t1 hl has; omega⟩) (fun hl hh => by have := t1 (by omega) has; omega)
     exact ⟨s', y, v, z, loop_next' f1 l1, loop_next' f2 l2, rest⟩
  ·rw [if_neg has] at f1
   have hI' : -1000 ≤ a ∧ a ≤ 1000 ∧ -1000 ≤ b ∧ b ≤ 1000 ∧ b ≤ a ∧ (low < a → a ≤ b) := by
    rcases hI with h | h
    ·omega
    ·exact h
   obtain ⟨q1, q2, q3, q4, q5, q6⟩ := hI'
   have hle : sc i ≤ s := t2 (by omega)
   by_cases hbs : b < sc i
   ·rw [if_pos hbs] at f2
    obtain ⟨s', y, v, z, l1, l2, rest⟩ := ab_loop low high hlh len g sc hsc h1 e1 h2 e2 hlen r (i + 1) a (sc i) w (g i) (by omega) ha (.inr ⟨q1, q2, hs.1, hs.2, by omega, fun hl => by have := q6 hl; omega⟩) (fun hl hh => by have := q6 (by omega); omega)
    exact ⟨s', y, v, z, loop_next' f1 l1, loop_next' f2 l2, rest⟩
   ·rw [if_neg hbs] at f2
    obtain ⟨s', y, v, z, l1, l2, rest⟩ := ab_loop low high hlh len g sc hsc h1 e1 h2 e2 hlen r (i + 1) a b w x (by omega) ha (.inr ⟨q1, q2, q3, q4, q5, q6⟩) hw
    exact ⟨s', y, v, z, loop_next' f1 l1, loop_next' f2 l2, rest⟩
theorem exact_both {v : Int} {B : Option BOut} {w : Mv} (hB : B = some (v, w)) (hv : -1000 ≤ v ∧ v ≤ 1000) {S : Int → Int → Option BOut} (hS : ∀ low high, S low high = some (v, w)) :
  ∃ (v : Int) (w : Mv), B = some (v, w) ∧ -1000 ≤ v ∧ v ≤ 1000 ∧ ∀ low high : Int, -10000 ≤ low → low < high → high ≤ 10000 → ∃ (s : Int) (y : Mv), S low high = some (s, y) ∧ -1000 ≤ s ∧ s ≤ 1000 ∧ (s < high → v ≤ s) ∧ (low < s → s ≤ v) ∧ (low < -1000 → 1000 < high → y = w) :=
 ⟨v, w, hB, hv.1, hv.2, fun low high _ _ _ => ⟨v, w, hS low high, hv.1, hv.2, fun _ => by omega, fun _ => by omega, fun _ _ => rfl⟩⟩
theorem best_both : ∀ (d : Nat) (p : List Int) (t c e h f : Int) (deep ply : Int), ply + d = deep → 0 ≤ ply → deep ≤ 2 → Inv p t c e h f → board_May_m p t c e h f = some true →
  ∃ (v : Int) (w : Mv), rf_BestOf18_mF (d + 1) p t c e h f deep ply = some (v, w) ∧ -1000 ≤ v ∧ v ≤ 1000 ∧ ∀ low high : Int, -10000 ≤ low → low < high → high ≤ 10000 → ∃ (s : Int) (y : Mv), problems_seek_mF (d + 1) p t c e h f ply deep low high = some (s, y) ∧ -1000 ≤ s ∧ s ≤ 1000 ∧ (s < high → v ≤ s) ∧ (low < s → s ≤ v) ∧ (low < -1000 → 1000 < high → y = w) := by
 intro d
 induction d with
 | zero =>
  intro p t c e h f deep ply hd h0 h2 I hm
  have eR : rf_BestOf18_mF (0 + 1) p t c e h f deep ply = rf_BestOf18_B (rf_BestOf18_mF 0) p t c e h f deep ply := rfl
  have eS : ∀ low high, problems_seek_mF (0 + 1) p t c e h f ply deep low high = problems_seek_B (problems_seek_mF 0) p t c e h f ply deep low high := fun _ _ => rfl
  obtain ⟨m, dd, mb, k1, k2⟩ := material_both I.sm t c e h f
  have hck := check_both I.sm I.tt (I.king t I.tt)
  have hpd : (ply == deep) = true := by rw [beq_iff_eq]; omega
  have hmul : -576 ≤ m * (1 - 2 * t) ∧ m * (1 - 2 * t) ≤ 576 := by
   rcases I.tt with rfl | rfl <;> omega
  have hsg : w64 (1 - w64 (2 * t)) = 1 - 2 * t := by
   have := I.tt
   rw [w64_of (x := 2 * t) (by omega), w64_of (by omega)]
  by_cases hl : (refL p t c e).length = 0
  ·have e0 : (((refL p t c e).length : Int) == 0) = true := by simp [hl]
   cases hc : inChk p t with
   | true =>
    refine exact_both (v := ply - 1000) (w := (0, 0, 0)) ?_ (by omega) (fun low high => ?_)
    ·rw [eR]
     unfold rf_BestOf18_B
     rw [all_p I, Option.bind_some, e0, hck.2, hc, w64_of (x := ply - 1000) (by omega)]
     rfl
    ·rw [eS]
     unfold problems_seek_B
     rw [moves_p I, Option.bind_some, e0, hck.1, hc, w64_of (x := ply - 1000) (by omega)]
     rfl
   | false =>
    refine exact_both (v := 0) (w := (0, 0, 0)) ?_ (by omega) (fun low high => ?_)
    ·rw [eR]
     unfold rf_BestOf18_B rf_BestOf18_J1
     rw [all_p I, Option.bind_some, e0, hck.2, hc]
     rfl
    ·rw [eS]
     unfold problems_seek_B
     rw [moves_p I, Option.bind_some, e0, hck.1, hc]
     rfl
  ·have e0 : (((refL p t c e).length : Int) == 0) = false := by simpa using hl
   refine exact_both (v := m * (1 - 2 * t)) (w := (0, 0, 0)) ?_ (by omega) (fun low high => ?_)
   ·rw [eR]
    unfold rf_BestOf18_B rf_BestOf18_J1 rf_BestOf18_J2 rf_SideSign_m
    rw [all_p I, Option.bind_some, e0, k2, hpd, hsg]
    simp only [Bool.false_eq_true, if_false, if_true, Option.bind_some, Bool.false_and]
    rw [w64_of (x := m * (1 - 2 * t)) (by omega)]
   ·rw [eS]
    unfold problems_seek_B chess_Material_m chess_May_m board_Forward_m
    rw [moves_p I, Option.bind_some, e0, hm, hpd, forward_small (by have := I.tt; omega)]
    simp only [Bool.false_eq_true, if_false, if_true, Option.bind_some, Bool.false_and, Bool.not_true]
    rw [k1]
    simp only [Option.bind_some]
    rw [w64_of (x := m * (1 - 2 * t)) (by omega)]
 | succ d ih =>
  intro p t c e h f deep ply hd h0 h2 I hm
  have hrl := refL_len I
  have eR : rf_BestOf18_mF (d + 1 + 1) p t c e h f deep ply = rf_BestOf18_B (rf_BestOf18_mF (d + 1)) p t c e h f deep ply := rfl
  have eS : ∀ low high, problems_seek_mF (d + 1 + 1) p t c e h f ply deep low high = problems_seek_B (problems_seek_mF (d + 1)) p t c e h f ply deep low high := fun _ _ => rfl
  have hck := check_both I.sm I.tt (I.king t I.tt)
  have hpd : (ply == deep) = false := by rw [Bool.eq_false_iff]; intro q; rw [beq_iff_eq] at q; omega
  by_cases hl : (refL p t c e).length = 0
  ·have e0 : (((refL p t c e).length : Int) == 0) = true := by simp [hl]
   cases hc : inChk p t with
   | true =>
    refine exact_both (v := ply - 1000) (w := (0, 0, 0)) ?_ (by omega) (fun low high => ?_)
    ·rw [eR]
     unfold rf_BestOf18_B
     rw [all_p I, Option.bind_some, e0, hck.2, hc, w64_of (x := ply - 1000) (by omega)]
     rfl
    ·rw [eS]
     unfold problems_seek_B
     rw [moves_p I, Option.bind_some, e0, hck.1, hc, w64_of (x := ply - 1000) (by omega)]
     rfl
   | false =>
    refine exact_both (v := 0) (w := (0, 0, 0)) ?_ (by omega) (fun low high => ?_)
    ·rw [eR]
     unfold rf_BestOf18_B rf_BestOf18_J1
     rw [all_p I, Option.bind_some, e0, hck.2, hc]
     rfl
    ·rw [eS]
     unfold problems_seek_B
     rw [moves_p I, Option.bind_some, e0, hck.1, hc]
     rfl
  ·have e0 : (((refL p t c e).length : Int) == 0) = false := by simpa using hl
   let g : Nat → Mv := fun i => getd ((0, 0, 0) : Int × Int × Int) (refL p t c e) (i : Int)
   have hw1 : w64 (ply + 1) = ply + 1 := w64_of (by omega)
   have child : ∀ i : Nat, i < (refL p t c e).length → ∃ u : Int, -1000 ≤ u ∧ u ≤ 1000 ∧ ∃ q t' c' e' h' f', board_After_m p t c e h f (g i).1 (g i).2.1 (g i).2.2 = some (q, t', c', e', h', f') ∧ rf_MoveDone_m p t c e h f (g i).1 (g i).2.1 (g i).2.2 = some (q, t', c', e', h', f') ∧
     (∃ w : Mv, rf_BestOf18_mF (d + 1) q t' c' e' h' f' deep (ply + 1) = some (u, w)) ∧ ∀ low high : Int, -10000 ≤ low → low < high → high ≤ 10000 → ∃ (s : Int) (y : Mv), problems_seek_mF (d + 1) q t' c' e' h' f' (ply + 1) deep low high = some (s, y) ∧ -1000 ≤ s ∧ s ≤ 1000 ∧ (s < high → u ≤ s) ∧ (low < s → s ≤ u) := by
    intro i hi
    obtain ⟨m, hmm⟩ : ∃ m, (refL p t c e)[i]? = some m := ⟨_, List.getElem?_eq_getElem hi⟩
    have hg : g i = m := getd_some hmm
    obtain ⟨q, t', c', e', h', f', a1, a2, I', hm'⟩ := step_q I (List.mem_of_getElem? hmm)
    obtain ⟨u, w, r1, u1, u2, r2⟩ := ih q t' c' e' h' f' deep (ply + 1) (by omega) (by omega) h2 I' hm'
    refine ⟨u, u1, u2, q, t', c', e', h', f', by rw [hg]; exact a1, by rw [hg]; exact a2, ⟨w, r1⟩, fun low high l1 l2 l3 => ?_⟩
    obtain ⟨s, y, z1, z2, z3, z4, z5, _⟩ := r2 low high l1 l2 l3
    exact ⟨s, y, z1, z2, z3, z4, z5⟩
   obtain ⟨sc, hsc⟩ : ∃ sc : Nat → Int, ∀ i : Nat, i < (refL p t c e).length → -1000 ≤ sc i ∧ sc i ≤ 1000 ∧ ∃ q t' c' e' h' f', board_After_m p t c e h f (g i).1 (g i).2.1 (g i).2.2 = some (q, t', c', e', h', f') ∧ rf_MoveDone_m p t c e h f (g i).1 (g i).2.1 (g i).2.2 = some (q, t', c', e', h', f') ∧
     (∃ w : Mv, rf_BestOf18_mF (d + 1) q t' c' e' h' f' deep (ply + 1) = some (- sc i, w)) ∧ ∀ low high : Int, -10000 ≤ low → low < high → high ≤ 10000 → ∃ (s : Int) (y : Mv), problems_seek_mF (d + 1) q t' c' e' h' f' (ply + 1) deep low high = some (s, y) ∧ -1000 ≤ s ∧ s ≤ 1000 ∧ (s < high → - sc i ≤ s) ∧ (low < s → s ≤ - sc i) := by
    refine ⟨fun i => if hi : i < (refL p t c e).length then - Classical.choose (child i hi) else 0, fun i hi => ?_⟩
    have := Classical.choose_spec (child i hi)
    simp only [dif_pos hi, Int.neg_neg]
    exact ⟨by omega, by omega, this.2.2⟩
   have hb : ∀ i : Nat, i < (refL p t c e).length → -1000 ≤ sc i ∧ sc i ≤ 1000 := fun i hi => ⟨(hsc i hi).1, (hsc i hi).2.1⟩
   have h2' : ∀ i, i < (refL p t c e).length → ∀ (b : Int) (w : Mv), rf_BestOf18_L1 (rf_BestOf18_mF (d + 1)) p t c e h f deep ply (refL p t c e) (bst b w i) = some (.next (if b < sc i then bst (sc i) (g i) (i + 1) else bst b w (i + 1))) := by
    intro i hi b w
    obtain ⟨u1, u2, q, t', c', e', h', f', a1, a2, ⟨w', r1⟩, _⟩ := hsc i hi
    unfold bst
    simp only [rf_BestOf18_L1]
    rw [if_pos (decide_eq_true (by omega))]
    unfold rf_BestOf18_J5 rf_BestOf18_J7 rf_BestOf18_J6
    rw [asrt_pos (by omega)]
    have hg : getd ((0, 0, 0) : Int × Int × Int) (refL p t c e) (i : Int) = g i := rfl
    rw [hg, a2, Option.bind_some, hw1]
    simp only
    rw [r1]
    simp only [Option.bind_some]
    rw [w64_of (x := 0 - - sc i) (by omega), show (0 : Int) - - sc i = sc i by omega, w64_succ (by omega)]
    by_cases hlt : b < sc i
    ·rw [if_pos (decide_eq_true hlt), if_pos hlt, asrt_pos (by omega)]; rfl
    ·rw [if_neg (by rw [decide_eq_true_eq]; exact hlt), if_neg hlt]; rfl
   have e2' : ∀ (b : Int) (w : Mv), rf_BestOf18_L1 (rf_BestOf18_mF (d + 1)) p t c e h f deep ply (refL p t c e) (bst b w (refL p t c e).length) = some (.done (b, w)) := by
    intro b w
    unfold bst
    simp only [rf_BestOf18_L1]
    exact if_neg (by simp)
   have h1' : ∀ low high : Int, -10000 ≤ low → low < high → high ≤ 10000 → ∀ i, i < (refL p t c e).length → ∀ (a : Int) (w : Mv), (a = -10000 ∨ (-1000 ≤ a ∧ a ≤ 1000)) → a < high → ∃ s : Int, -1000 ≤ s ∧ s ≤ 1000 ∧ (low < s → a < s → s ≤ sc i) ∧ (s < high → sc i ≤ s) ∧
     problems_seek_L1 (problems_seek_mF (d + 1)) p t c e h f ply deep low high (refL p t c e) (bst a w i) = some (if a < s then (if high ≤ s then .done (s, g i) else .next (bst s (g i) (i + 1))) else .next (bst a w (i + 1))) := by
    intro low high l1 l2 l3 i hi a w ha hah
    obtain ⟨u1, u2, q, t', c', e', h', f', a1, a2, _, r2⟩ := hsc i hi
    have hmx : maxI low a = low ∨ maxI low a = a := by unfold maxI; split <;> simp
    have hmx1 : low ≤ maxI low a ∧ a ≤ maxI low a := by unfold maxI; split <;> omega
    obtain ⟨s, y, z1, z2, z3, z4, z5⟩ := r2 (-high) (- maxI low a) (by omega) (by omega) (by omega)
    refine ⟨-s, by omega, by omega, fun _ _ => by have := z4 (by omega); omega, fun _ => by have := z5 (by omega); omega, ?_⟩
    unfold bst
    simp only [problems_seek_L1]
    rw [if_pos (decide_eq_true (by omega))]
    unfold problems_seek_J3 problems_seek_J5 problems_seek_J4
    rw [asrt_pos (by omega)]
    have hg : getd ((0, 0, 0) : Int × Int × Int) (refL p t c e) (i : Int) = g i := rfl
    rw [hg, a1, Option.bind_some, hw1, w64_of (x := 0 - high) (by omega), w64_of (x := 0 - maxI low a) (by omega), show (0 : Int) - high = -high by omega, show 0 - maxI low a = - maxI low a by omega]
    simp only
    rw [z1]
    simp only [Option.bind_some]
    rw [w64_of (x := 0 - s) (by omega), show (0 : Int) - s = -s by omega, w64_succ (by omega)]
    by_cases hlt : a < -s
    ·rw [if_pos (decide_eq_true hlt), if_pos hlt]
     by_cases hc : high ≤ -s
     ·rw [if_pos (decide_eq_true hc), if_pos hc]
     ·rw [if_neg (by rw [decide_eq_true_eq]; exact hc), if_neg hc]; rfl
    ·rw [if_neg (by rw [decide_eq_true_eq]; exact hlt), if_neg hlt, if_neg (by rw [decide_eq_true_eq]; omega)]; rfl
   have e1' : ∀ (low high b : Int) (w : Mv), problems_seek_L1 (problems_seek_mF (d + 1)) p t c e h f ply deep low high (refL p t c e) (bst b w (refL p t c e).length) = some (.done (b, w)) := by
    intro low high b w
    unfold bst
    simp only [problems_seek_L1]
    exact if_neg (by simp)
   have main : ∀ low high : Int, -10000 ≤ low → low < high → high ≤ 10000 → _ := fun low high l1 l2 l3 => ab_loop low high l2 (refL p t c e).length g sc hb (h1' low high l1 l2 l3) (e1' low high) h2' e2' (by omega) (refL p t c e).length 0 (-10000) (-5000) (0, 0, 0) (0, 0, 0) (by omega) (by omega) (.inl ⟨rfl, rfl, rfl⟩) (fun _ _ => rfl)
   obtain ⟨s0, y0, v, z, _, lr, _, _, v1, v2, _⟩ := main (-10000) 10000 (by omega) (by omega) (by omega)
   refine ⟨v, z, ?_, v1, v2, fun low high l1 l2 l3 => ?_⟩
   ·rw [eR]
    unfold rf_BestOf18_B rf_BestOf18_J1 rf_BestOf18_J2 rf_BestOf18_J3
    rw [all_p I, Option.bind_some, e0, hpd]
    simp only [Bool.false_eq_true, if_false, Option.bind_some, Bool.false_and]
    have lr' : loop (rf_BestOf18_L1 (rf_BestOf18_mF (d + 1)) p t c e h f deep ply (refL p t c e)) ((-5000), 0, 0, 0, 0) = some (v, z) := lr
    rw [lr', Option.bind_some]
    rfl
   ·obtain ⟨s, y, v', z', ls, lr2, w1, w2, w3, w4, w5, w6, w7⟩ := main low high l1 l2 l3
    rw [lr] at lr2
    injection lr2 with lr2
    injection lr2 with q1 q2
    subst q1 q2
    refine ⟨s, y, ?_, w1, w2, w5, w6, w7⟩
    rw [eS]
    unfold problems_seek_B problems_seek_J1
    rw [moves_p I, Option.bind_some, e0, hpd]
    simp only [Bool.false_eq_true, if_false, Option.bind_some, Bool.false_and]
    have ls' : loop (problems_seek_L1 (problems_seek_mF (d + 1)) p t c e h f ply deep low high (refL p t c e)) ((-10000), 0, 0, 0, 0) = some (s, y) := ls
    rw [ls', Option.bind_some]
    rfl
theorem true_ProblemsBests (p : List Int) (p2 p3 p4 p5 p6 plies result deep : Int) (hl : p.length ≤ 17592186043904) (hin : ∀ y ∈ p, inI y) (_h2 : inI p2) (_h3 : inI p3) (_h4 : inI p4) (_h5 : inI p5) (_h6 : inI p6) (_h7 : inI plies) (_h8 : inI result) (_h9 : inI deep) : lw_ProblemsBests_m p p2 p3 p4 p5 p6 plies result deep = some true := by
 unfold lw_ProblemsBests_m
 rw [chessOf_any hl]
 simp only [Option.bind_some]
 obtain ⟨b, q1, q2, _⟩ := may_both hin p2 p3 p4 p5 p6
 unfold problems_Rows_m problems_Best_m
 rw [q1, q2]
 simp only [Option.bind_some]
 cases b with
 | false => rfl
 | true =>
  have I := may_inv hin q1
  simp only [Bool.not_true, Bool.false_eq_true, if_false]
  have hbest : ∃ r4 : Int × Int × Int × Int × Int, (if (decide (deep < 0) || decide ((2 : Int) < deep)) = true then some ((0 : Int), (0 : Int), (0 : Int), (0 : Int), (3 : Int)) else problems_Best_J1 p p2 p3 p4 p5 p6 deep) = some r4 ∧ lw_ProblemsBests_J3 p p2 p3 p4 p5 p6 deep r4 = some true := by
   unfold lw_ProblemsBests_J3
   by_cases hd : (decide (deep < 0) || decide ((2 : Int) < deep)) = true
   ·rw [if_pos hd]
    refine ⟨_, rfl, ?_⟩
    rw [if_pos hd]
    rfl
   ·rw [if_neg hd]
    have hd' := hd
    simp only [Bool.or_eq_true, decide_eq_true_eq] at hd'
    obtain ⟨n, rfl⟩ : ∃ n : Nat, deep = n := ⟨deep.toNat, by omega⟩
    obtain ⟨v, w, r1, v1, v2, r2⟩ := best_both n p p2 p3 p4 p5 p6 (n : Int) 0 (by omega) (by omega) (by omega) I q1
    obtain ⟨s, y, z1, z2, z3, z4, z5, z6⟩ := r2 (-10000) 10000 (by omega) (by omega) (by omega)
    have hy := z6 (by omega) (by omega)
    have hs : s = v := by have := z4 (by omega); have := z5 (by omega); omega
    subst hy hs
    have m1 := problems_seek_m_of _ _ _ _ _ _ _ _ _ _ _ z1
    have m2 := rf_BestOf18_m_of _ _ _ _ _ _ _ _ _ r1
    refine ⟨(s, y.1, y.2.1, y.2.2, 0), ?_, ?_⟩
    ·unfold problems_Best_J1
     rw [m1]
     rfl
    ·rw [if_neg hd]
     unfold lw_ProblemsBests_J4
     rw [m2]
     simp
  obtain ⟨r4, m1, m2⟩ := hbest
  unfold lw_ProblemsBests_J1 lw_ProblemsBests_J2
  by_cases hp : (decide (plies < 0) || decide ((3 : Int) < plies)) = true
  ·rw [if_pos hp]
   simp only [Option.bind_some]
   rw [m1]
   simp only [Option.bind_some]
   rw [if_pos hp, if_pos (by decide), if_neg (by decide), m2]
  ·rw [if_neg hp]
   by_cases hr : ((result != 1) && (result != 2)) = true
   ·rw [if_pos hr]
    simp only [Option.bind_some]
    rw [m1]
    simp only [Option.bind_some]
    rw [if_neg hp, if_pos hr, if_pos (by decide), if_neg (by decide), m2]
   ·rw [if_neg hr]
    simp only [Bool.or_eq_true, decide_eq_true_eq] at hp
    obtain ⟨n, rfl⟩ : ∃ n : Nat, plies = n := ⟨plies.toNat, by omega⟩
    have hr' : result = 1 ∨ result = 2 := by
     simp only [Bool.and_eq_true, bne_iff_ne] at hr
     omega
    obtain ⟨v, _, _, r1, r2⟩ := rows_both n p p2 p3 p4 p5 p6 result (by omega) hr' I
    unfold problems_Rows_J1
    rw [problems_Rows_1_m_of _ _ _ _ _ _ _ _ _ r1]
    simp only [Option.bind_some]
    rw [m1]
    simp only [Option.bind_some]
    rw [if_neg (by simp only [Bool.or_eq_true, decide_eq_true_eq]; exact hp), if_neg hr, if_neg (by decide), rf_RowsOf18_m_of _ _ _ _ _ _ _ _ _ r2]
    rw [if_pos (by decide)]
    simp only [Option.bind_some]
    rw [if_neg (by simp), m2]
end Go.Proofs.Ytfmmlmiakkjaiaa
