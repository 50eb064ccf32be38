import Derived.Test.YtfmmlmiakkjaiaaCMj
import Derived.Test.YtfmmlmiakkjaiaaNMB
namespace Go.Proofs.Ytfmmlmiakkjaiaa
open Go Go.GL Go.RowKit
section
variable {p : List Int} {t c e h f : Int} {a b : Nat} {k : Int}
theorem Inv.king (I : Inv p t c e h f) (s : Int) (hs : s = 0 ∨ s = 1) : ∃ b : Nat, b < 64 ∧ geti p b = kingV s := by
 obtain ⟨k, h1, h2⟩ := I.kg s hs
 exact ⟨k, h1, (h2 k h1).2 rfl⟩
def Ep3 (p : List Int) (t e : Int) : Prop := ∀ b : Nat, e = b → geti p ((b : Int) + 8 * sgn t) = 0
theorem next_ep3 (I : Inv p t c e h f) (m : PL p t c e a b k) : Ep3 (aft p t e a b k) (1 - t) (eAft p t a b) := by
 intro b' h'
 unfold eAft at h'
 by_cases hd : (geti p a).natAbs = 1 ∧ (b : Int) - a = 16 * sgn t
 ·rw [if_pos hd] at h'
  obtain ⟨q1, q2, q3, q4⟩ := eAft_dbl I m hd.1 hd.2
  have hb := m.bds I
  have hs1 : sgn (1 - t) = - sgn t := by unfold sgn; omega
  have ea : aft p t e a b k = (p.set a 0).set b (geti p a) := by
   unfold aft
   rw [if_pos hd.1, if_neg q4, if_neg (by omega)]
  have hab : a ≠ b := by
   rcases sgn_t I.tt with ⟨_, h⟩ | ⟨_, h⟩ <;> rw [h] at hd <;> omega
  rw [hs1, show (b' : Int) + 8 * -sgn t = (a : Int) by omega, ea, set2_get I.len hb.1 hb.2.1, if_neg hab, if_pos rfl]
 ·rw [if_neg hd] at h'; omega
theorem cnt_one {q : Nat → Bool} {k : Nat} (hk : q k = true) : ∀ n, (∀ j, j < n → (q j = true ↔ j = k)) → cntN q n = if k < n then 1 else 0
 | 0, _ => by simp [cntN]
 | n + 1, h => by
  have ih := cnt_one hk n (fun j hj => h j (by omega))
  simp only [cntN]
  rw [ih]
  by_cases e : n = k
  ·rw [if_pos ((h n (by omega)).2 e), if_neg (by omega), if_pos (by omega)]
  ·have : ¬ q n = true := fun q => e ((h n (by omega)).1 q)
   rw [if_neg this]
   by_cases e2 : k < n
   ·rw [if_pos e2, if_pos (by omega)]
   ·rw [if_neg e2, if_neg (by omega)]
theorem may_loop (hl : p.length = 64) (hs : Small p) (hbad : ∀ i : Nat, i < 64 → badP (geti p i) i = false) : loop (board_May_L1 p) ([0, 0], 0) = some (Fl.go [(cntV p 6 64 : Int), (cntV p (-6) 64 : Int)]) := by
 refine loop_from (fun n : Nat => ([(cntV p 6 n : Int), (cntV p (-6) n : Int)], (n : Int))) 64 rfl (fun n hn => ?_) ?_
 ·have c1 : cntV p 6 n ≤ n := cntN_le _ _
  have c2 : cntV p (-6) n ≤ n := cntN_le _ _
  have s1 : cntV p 6 (n + 1) = cntV p 6 n + if geti p n = 6 then 1 else 0 := by simp [cntV, cntN]
  have s2 : cntV p (-6) (n + 1) = cntV p (-6) n + if geti p n = -6 then 1 else 0 := by simp [cntV, cntN]
  have hb := hbad n hn
  unfold badP at hb
  simp only [board_May_L1]
  rw [if_pos (decide_eq_true (by rw [hl]; omega))]
  unfold board_May_J3 board_May_J5 board_May_J4
  rw [asrt_pos (by rw [hl]; omega), w64_of (x := (n : Int) + 1) (by omega)]
  have hx := hs.2 n hn
  rw [kind_small hx, Option.bind_some, side_eq]
  have h7 : geti p n = -6 ∨ geti p n = -5 ∨ geti p n = -4 ∨ geti p n = -3 ∨ geti p n = -2 ∨ geti p n = -1 ∨ geti p n = 0 ∨ geti p n = 1 ∨ geti p n = 2 ∨ geti p n = 3 ∨ geti p n = 4 ∨ geti p n = 5 ∨ geti p n = 6 := by omega
  have w1 : w64 ((cntV p 6 n : Int) + 1) = (cntV p 6 n : Int) + 1 := w64_of (by omega)
  have w2 : w64 ((cntV p (-6) n : Int) + 1) = (cntV p (-6) n : Int) + 1 := w64_of (by omega)
  rcases h7 with h | h | h | h | h | h | h | h | h | h | h | h | h <;> rw [h] at s1 s2 hb ⊢ <;> simp at s1 s2 hb <;> rw [s1, s2]
  all_goals simp [sideI, geti, w1, w2, asrt]
  all_goals omega
 ·simp only [board_May_L1]
  rw [if_neg (by rw [hl]; simp)]
theorem pass_true (I : Inv p t c e h f) (h3 : Ep3 p t e) (he : e ≠ -1) : board_passant_m p t c e h f = some true := by
 rcases I.ep with h0 | ⟨b, rfl, b1, b2, b3⟩
 ·exact absurd h0 he
 have h3 := h3 b rfl
 have hl := I.len
 unfold board_passant_m
 rcases I.tt with rfl | rfl
 ·rw [forward_small (by decide), show (1 - 2 * (0 : Int)) = 1 from rfl]
  simp only [Option.bind_some]
  rw [show w64 (5 - w64 (3 * 0)) = ((5 : Nat) : Int) by decide, rank_b (b : Int) 5 (by decide), show w64 (8 * 1) = 8 by decide, show w64 (w64 (0 - 1) * 1) = -1 by decide, w64_of (x := (b : Int) - 8) (by omega), w64_of (x := (b : Int) + 8) (by omega)]
  rw [show sgn 0 = 1 from rfl] at b3 h3
  rw [show (b : Int) - 8 * 1 = (b : Int) - 8 from rfl] at b3
  rw [show (b : Int) + 8 * 1 = (b : Int) + 8 from rfl] at h3
  repeat rw [asrt_pos (fun _ => by omega)]
  rw [b2, b3, h3, decide_eq_true (by omega), decide_eq_true (by omega)]
  rfl
 ·rw [forward_small (by decide), show (1 - 2 * (1 : Int)) = -1 from rfl]
  simp only [Option.bind_some]
  rw [show w64 (5 - w64 (3 * 1)) = ((2 : Nat) : Int) by decide, rank_b (b : Int) 2 (by decide), show w64 (8 * -1) = -8 by decide, show w64 (w64 (0 - -1) * 1) = 1 by decide, w64_of (x := (b : Int) - -8) (by omega), w64_of (x := (b : Int) + -8) (by omega)]
  rw [show sgn 1 = -1 from rfl] at b3 h3
  rw [show (b : Int) - 8 * -1 = (b : Int) - -8 from rfl] at b3
  rw [show (b : Int) + 8 * -1 = (b : Int) + -8 from rfl] at h3
  repeat rw [asrt_pos (fun _ => by omega)]
  rw [b2, b3, h3, decide_eq_true (by omega), decide_eq_true (by omega)]
  rfl
theorem inv_may (I : Inv p t c e h f) (h3 : Ep3 p t e) : board_May_m p t c e h f = some true := by
 have hl := I.len
 have i1 := I.tt
 have i2 := I.cc
 have i3 := I.hh
 have i4 := I.ff
 unfold board_May_m
 rw [if_neg (by simp only [Bool.or_eq_true, bne_iff_ne, decide_eq_true_eq, not_or, Decidable.not_not]; omega)]
 unfold board_May_J1
 rw [show List.replicate 2 (0 : Int) = [0, 0] from rfl, may_loop hl I.sm (fun i hi => by
  have hx := I.sm.2 i hi
  have hp := I.pw i hi
  unfold badP
  simp only [Bool.or_eq_false_iff, Bool.and_eq_false_iff, decide_eq_false_iff_not, Bool.not_eq_false', Bool.and_eq_true, decide_eq_true_eq]
  refine ⟨hx, ?_⟩
  by_cases h1 : (geti p i).natAbs = 1
  ·right; have := hp h1; omega
  ·exact .inl h1), Option.bind_some]
 simp only [board_May_K1]
 unfold board_May_J2
 have g0 : ∀ a b : Int, geti [a, b] 0 = a ∧ geti [a, b] 1 = b := fun a b => ⟨rfl, rfl⟩
 rw [(g0 _ _).1, (g0 _ _).2, (g0 _ _).1, (g0 _ _).2]
 have k6 : cntV p 6 64 = 1 := by
  obtain ⟨k, hk, hu⟩ := I.kg 0 (.inl rfl)
  unfold cntV
  rw [cnt_one (k := k) (decide_eq_true ((hu k hk).2 rfl)) 64 (fun j hj => by rw [decide_eq_true_eq]; exact hu j hj), if_pos hk]
 have km : cntV p (-6) 64 = 1 := by
  obtain ⟨k, hk, hu⟩ := I.kg 1 (.inr rfl)
  unfold cntV
  rw [cnt_one (k := k) (decide_eq_true ((hu k hk).2 rfl)) 64 (fun j hj => by rw [decide_eq_true_eq]; exact hu j hj), if_pos hk]
 have hck := check_both I.sm (side := 1 - t) (by omega) (I.king (1 - t) (by omega))
 rw [k6, km, w64_of (by omega), hck.1, I.sf]
 show board_May_J6 p t c e h f = some true
 unfold board_May_J6
 have hc2 : loop (board_May_L2 p c) 0 = some (Fl.go ()) := by
  obtain ⟨b, d1, _⟩ := cast_both hl c
  cases b with
  | false => exact d1
  | true =>
   exfalso
   have key : ∀ (n : Nat) (k r f : Int), n < 4 → (cbit c n = true → geti p k = 6 * f ∧ geti p r = 4 * f) → castC p c (n : Int) k r f = false := by
    intro n k r f hn h
    unfold castC
    rw [bit_p i2 hn]
    cases hb : cbit c n with
    | false => rfl
    | true =>
     obtain ⟨h1, h2⟩ := h hb
     rw [h1, h2]
     simp
   have c0 := key 0 4 7 1 (by omega) (I.cs 0 (by omega))
   have c1 := key 1 4 0 1 (by omega) (I.cs 1 (by omega))
   have c2 := key 2 60 63 (-1) (by omega) (fun hb => by simpa [homeK, homeR, sgn] using I.cs 2 (by omega) hb)
   have c3 := key 3 60 56 (-1) (by omega) (fun hb => by simpa [homeK, homeR, sgn] using I.cs 3 (by omega) hb)
   have e4 : board_May_L2 p c 4 = some (.done (.go ())) := by simp [board_May_L2]
   have e0 := cast0_p hl c
   have e1 := cast1_p hl c
   have e2 := cast2_p hl c
   have e3 := cast3_p hl c
   rw [show ((0 : Nat) : Int) = 0 from rfl] at c0
   rw [show ((1 : Nat) : Int) = 1 from rfl] at c1
   rw [show ((2 : Nat) : Int) = 2 from rfl] at c2
   rw [show ((3 : Nat) : Int) = 3 from rfl] at c3
   rw [c0] at e0
   rw [c1] at e1
   rw [c2] at e2
   rw [c3] at e3
   have := loop_next' e0 (loop_next' e1 (loop_next' e2 (loop_next' e3 (loop_done e4))))
   rw [this] at d1
   simp at d1
 rw [hc2, Option.bind_some]
 simp only [board_May_K2]
 unfold board_May_J7
 by_cases he : e = -1
 ·subst he; rfl
 ·have e9 : (e == -1) = false := by simpa using he
  rw [e9, pass_true I h3 he]
  rfl
theorem step_q (I : Inv p t c e h f) {m : Mv} (hm : m ∈ refL p t c e) : ∃ q t' c' e' h' f', board_After_m p t c e h f m.1 m.2.1 m.2.2 = some (q, t', c', e', h', f') ∧ rf_MoveDone_m p t c e h f m.1 m.2.1 m.2.2 = some (q, t', c', e', h', f') ∧ Inv q t' c' e' h' f' ∧ board_May_m q t' c' e' h' f' = some true := by
 obtain ⟨a, b, k, rfl, m, hs⟩ := ref_pl I hm
 exact ⟨_, _, _, _, _, _, after_p I m, done_p I m (.inl rfl), I.next m hs, inv_may (I.next m hs) (next_ep3 I m)⟩
end
theorem slant_all : ((List.range 64).all fun n => (bAnd (w64 ((bAnd (n : Int) 7) + (shrK .i64 (n : Int) 3))) 1 == (((n % 8 + n / 8) % 2 : Nat) : Int)) && (Int.tmod (w64 ((Int.tmod (n : Int) 8) + (w64 (Int.tdiv (n : Int) 8)))) 2 == (((n % 8 + n / 8) % 2 : Nat) : Int))) = true := by decide +kernel
theorem slant_p {n : Nat} (hn : n < 64) : bAnd (w64 ((bAnd (n : Int) 7) + (shrK .i64 (n : Int) 3))) 1 = (((n % 8 + n / 8) % 2 : Nat) : Int) ∧ Int.tmod (w64 ((Int.tmod (n : Int) 8) + (w64 (Int.tdiv (n : Int) 8)))) 2 = (((n % 8 + n / 8) % 2 : Nat) : Int) := by
 have h := List.all_eq_true.1 slant_all n (List.mem_range.2 hn)
 rw [Bool.and_eq_true, beq_iff_eq, beq_iff_eq] at h
 exact h
section
variable {p : List Int}
structure MI (n : Nat) (s : Int × Int × Int × Int × Int) : Prop where
 sum : -9 * (n : Int) ≤ s.1 ∧ s.1 ≤ 9 * n
 great : 0 ≤ s.2.1 ∧ s.2.1 ≤ n
 kn : 0 ≤ s.2.2.1 ∧ s.2.2.1 ≤ n
 dk : 0 ≤ s.2.2.2.1 ∧ s.2.2.2.1 ≤ n
 lt : 0 ≤ s.2.2.2.2 ∧ s.2.2.2.2 ≤ n
theorem material_both (hs : Small p) (p2 p3 p4 p5 p6 : Int) : ∃ m d, (-576 ≤ m ∧ m ≤ 576) ∧ chess_Material_J1 p = some (m, d, 0) ∧ rf_MaterialOf_m p p2 p3 p4 p5 p6 = some (m, d) := by
 unfold chess_Material_J1 rf_MaterialOf_m
 rw [show List.replicate 2 (0 : Int) = [0, 0] from rfl]
 have key := count_loop2' (step1 := chess_Material_L1 p) (step2 := rf_MaterialOf_L1 p)
  (fun (s : Int × Int × Int × Int × Int) (n : Nat) => (s.1, s.2.1, s.2.2.1, [s.2.2.2.1, s.2.2.2.2], (n : Int)))
  (fun (s : Int × Int × Int × Int × Int) (n : Nat) => (s.1, s.2.2.1 + s.2.2.2.1 + s.2.2.2.2, s.2.2.1, s.2.2.2.2, s.2.2.2.1, decide (s.2.1 = 0), (n : Int)))
  MI (fun r1 r2 => ∃ s, MI 64 s ∧ r1 = (s.1, s.2.1, s.2.2.1, [s.2.2.2.1, s.2.2.2.2]) ∧ r2 = (s.1, s.2.2.1 + s.2.2.2.1 + s.2.2.2.2, s.2.2.1, s.2.2.2.2, s.2.2.2.1, decide (s.2.1 = 0))) 64 (0, 0, 0, 0, 0) ⟨by simp, by simp, by simp, by simp, by simp⟩ (by
  rintro n ⟨sum, great, kn, dk, lt⟩ hn ⟨i1, i2, i3, i4, i5⟩
  simp only at i1 i2 i3 i4 i5 ⊢
  have hx := hs.2 n hn
  have hsl := slant_p hn
  have hpar : (n % 8 + n / 8) % 2 = 0 ∨ (n % 8 + n / 8) % 2 = 1 := by omega
  have e1 : chess_Material_L1 p (sum, great, kn, [dk, lt], (n : Int)) = chess_Material_J3 p sum great kn [dk, lt] n := by
   simp only [chess_Material_L1]
   exact if_pos (decide_eq_true (by rw [hs.1]; omega))
  have e2 : rf_MaterialOf_L1 p (sum, kn + dk + lt, kn, lt, dk, decide (great = 0), (n : Int)) = rf_MaterialOf_J2 p sum (kn + dk + lt) kn lt dk (decide (great = 0)) n := by
   simp only [rf_MaterialOf_L1]
   exact if_pos (decide_eq_true (by omega))
  rw [e1, e2]
  unfold chess_Material_J3 chess_Material_J5 chess_Material_J6 chess_Material_J4 rf_MaterialOf_J2 rf_MaterialOf_J4 rf_MaterialOf_J3
  rw [asrt_pos (by rw [hs.1]; omega), asrt_pos (by rw [hs.1]; omega), kind_small hx, size_small (by omega), sign_eq, hsl.1, hsl.2, w64_of (x := (n : Int) + 1) (by omega), w64_of (x := great + 1) (by omega), w64_of (x := kn + 1) (by omega), w64_of (x := kn + dk + lt + 1) (by omega), w64_of (x := dk + 1) (by omega), w64_of (x := lt + 1) (by omega)]
  simp only [Option.bind_some]
  have h7 : geti p n = -6 ∨ geti p n = -5 ∨ geti p n = -4 ∨ geti p n = -3 ∨ geti p n = -2 ∨ geti p n = -1 ∨ geti p n = 0 ∨ geti p n = 1 ∨ geti p n = 2 ∨ geti p n = 3 ∨ geti p n = 4 ∨ geti p n = 5 ∨ geti p n = 6 := by omega
  have fin : ∀ (s' : Int × Int × Int × Int × Int) {A : Option (St (Int × Int × Int × List Int × Int) (Int × Int × Int × List Int))} {B : Option (St (Int × Int × Int × Int × Int × Bool × Int) (Int × Int × Int × Int × Int × Bool))}, A = some (.next (s'.1, s'.2.1, s'.2.2.1, [s'.2.2.2.1, s'.2.2.2.2], (n : Int) + 1)) → B = some (.next (s'.1, s'.2.2.1 + s'.2.2.2.1 + s'.2.2.2.2, s'.2.2.1, s'.2.2.2.2, s'.2.2.2.1, decide (s'.2.1 = 0), (n : Int) + 1)) → MI (n + 1) s' → ∃ s' : Int × Int × Int × Int × Int, A = some (.next (s'.1, s'.2.1, s'.2.2.1, [s'.2.2.2.1, s'.2.2.2.2], ((n + 1 : Nat) : Int))) ∧ B = some (.next (s'.1, s'.2.2.1 + s'.2.2.2.1 + s'.2.2.2.2, s'.2.2.1, s'.2.2.2.2, s'.2.2.2.1, decide (s'.2.1 = 0), ((n + 1 : Nat) : Int))) ∧ MI (n + 1) s' := fun s' A B h1 h2 h3 => ⟨s', h1, h2, h3⟩
  have w0 : w64 sum = sum := w64_of (by omega)
  have wd : w64 (dk + 1) = dk + 1 := w64_of (by omega)
  have wl : w64 (lt + 1) = lt + 1 := w64_of (by omega)
  have hgr : decide (great + 1 = 0) = false := decide_eq_false (by omega)
  rcases h7 with h | h | h | h | h | h | h | h | h | h | h | h | h
  ·rw [h]
   have w1 : w64 (sum - (0 : Int)) = sum + (0) := by rw [w64_of (by omega)] <;> omega
   have w2 : w64 (sum + w64 (sg (-6) * 0)) = sum + (0) := by rw [show w64 (sg (-6) * 0) = 0 by decide]; exact w64_of (by omega)
   have g1 : geti ([0, 1, 3, 3, 5, 9, 0] : List Int) ((((-6 : Int).natAbs : Nat) : Int)) = 0 := by decide
   rw [g1, w2]
   exact fin (sum + (0), great, kn, dk, lt) (by simp [w0, asrt]) (by simp [asrt]) ⟨by simp only; omega, by simp only; omega, by simp only; omega, by simp only; omega, by simp only; omega⟩
  ·rw [h]
   have w1 : w64 (sum - (9 : Int)) = sum + (-9) := by rw [w64_of (by omega)] <;> omega
   have w2 : w64 (sum + w64 (sg (-5) * 9)) = sum + (-9) := by rw [show w64 (sg (-5) * 9) = -9 by decide]; exact w64_of (by omega)
   have g1 : geti ([0, 1, 3, 3, 5, 9, 0] : List Int) ((((-5 : Int).natAbs : Nat) : Int)) = 9 := by decide
   rw [g1, w2]
   exact fin (sum + (-9), great + 1, kn, dk, lt) (by simp [w1, asrt]) (by simp [hgr, asrt]) ⟨by simp only; omega, by simp only; omega, by simp only; omega, by simp only; omega, by simp only; omega⟩
  ·rw [h]
   have w1 : w64 (sum - (5 : Int)) = sum + (-5) := by rw [w64_of (by omega)] <;> omega
   have w2 : w64 (sum + w64 (sg (-4) * 5)) = sum + (-5) := by rw [show w64 (sg (-4) * 5) = -5 by decide]; exact w64_of (by omega)
   have g1 : geti ([0, 1, 3, 3, 5, 9, 0] : List Int) ((((-4 : Int).natAbs : Nat) : Int)) = 5 := by decide
   rw [g1, w2]
   exact fin (sum + (-5), great + 1, kn, dk, lt) (by simp [w1, asrt]) (by simp [hgr, asrt]) ⟨by simp only; omega, by simp only; omega, by simp only; omega, by simp only; omega, by simp only; omega⟩
  ·rw [h]
   have w1 : w64 (sum - (3 : Int)) = sum + (-3) := by rw [w64_of (by omega)] <;> omega
   have w2 : w64 (sum + w64 (sg (-3) * 3)) = sum + (-3) := by rw [show w64 (sg (-3) * 3) = -3 by decide]; exact w64_of (by omega)
   have g1 : geti ([0, 1, 3, 3, 5, 9, 0] : List Int) ((((-3 : Int).natAbs : Nat) : Int)) = 3 := by decide
   rw [g1, w2]
   rcases hpar with hp | hp
   ·rw [hp]
    exact fin (sum + (-3), great, kn, dk + 1, lt) (by simp [w1, wd, asrt, geti]) (by simp [asrt]; omega) ⟨by simp only; omega, by simp only; omega, by simp only; omega, by simp only; omega, by simp only; omega⟩
   ·rw [hp]
    exact fin (sum + (-3), great, kn, dk, lt + 1) (by simp [w1, wl, asrt, geti]) (by simp [asrt]; omega) ⟨by simp only; omega, by simp only; omega, by simp only; omega, by simp only; omega, by simp only; omega⟩
  ·rw [h]
   have w1 : w64 (sum - (3 : Int)) = sum + (-3) := by rw [w64_of (by omega)] <;> omega
   have w2 : w64 (sum + w64 (sg (-2) * 3)) = sum + (-3) := by rw [show w64 (sg (-2) * 3) = -3 by decide]; exact w64_of (by omega)
   have g1 : geti ([0, 1, 3, 3, 5, 9, 0] : List Int) ((((-2 : Int).natAbs : Nat) : Int)) = 3 := by decide
   rw [g1, w2]
   exact fin (sum + (-3), great, kn + 1, dk, lt) (by simp [w1, asrt]) (by simp [asrt]; omega) ⟨by simp only; omega, by simp only; omega, by simp only; omega, by simp only; omega, by simp only; omega⟩
  ·rw [h]
   have w1 : w64 (sum - (1 : Int)) = sum + (-1) := by rw [w64_of (by omega)] <;> omega
   have w2 : w64 (sum + w64 (sg (-1) * 1)) = sum + (-1) := by rw [show w64 (sg (-1) * 1) = -1 by decide]; exact w64_of (by omega)
   have g1 : geti ([0, 1, 3, 3, 5, 9, 0] : List Int) ((((-1 : Int).natAbs : Nat) : Int)) = 1 := by decide
   rw [g1, w2]
   exact fin (sum + (-1), great + 1, kn, dk, lt) (by simp [w1, asrt]) (by simp [hgr, asrt]) ⟨by simp only; omega, by simp only; omega, by simp only; omega, by simp only; omega, by simp only; omega⟩
  ·rw [h]
   have w1 : w64 (sum - (0 : Int)) = sum + (0) := by rw [w64_of (by omega)] <;> omega
   have w2 : w64 (sum + w64 (sg (0) * 0)) = sum + (0) := by rw [show w64 (sg (0) * 0) = 0 by decide]; exact w64_of (by omega)
   have g1 : geti ([0, 1, 3, 3, 5, 9, 0] : List Int) ((((0 : Int).natAbs : Nat) : Int)) = 0 := by decide
   rw [g1, w2]
   exact fin (sum + (0), great, kn, dk, lt) (by simp [w0, asrt]) (by simp [asrt]) ⟨by simp only; omega, by simp only; omega, by simp only; omega, by simp only; omega, by simp only; omega⟩
  ·rw [h]
   have w1 : w64 (sum + (1 : Int)) = sum + (1) := by rw [w64_of (by omega)]
   have w2 : w64 (sum + w64 (sg (1) * 1)) = sum + (1) := by rw [show w64 (sg (1) * 1) = 1 by decide]; exact w64_of (by omega)
   have g1 : geti ([0, 1, 3, 3, 5, 9, 0] : List Int) ((((1 : Int).natAbs : Nat) : Int)) = 1 := by decide
   rw [g1, w2]
   exact fin (sum + (1), great + 1, kn, dk, lt) (by simp [w1, asrt]) (by simp [hgr, asrt]) ⟨by simp only; omega, by simp only; omega, by simp only; omega, by simp only; omega, by simp only; omega⟩
  ·rw [h]
   have w1 : w64 (sum + (3 : Int)) = sum + (3) := by rw [w64_of (by omega)]
   have w2 : w64 (sum + w64 (sg (2) * 3)) = sum + (3) := by rw [show w64 (sg (2) * 3) = 3 by decide]; exact w64_of (by omega)
   have g1 : geti ([0, 1, 3, 3, 5, 9, 0] : List Int) ((((2 : Int).natAbs : Nat) : Int)) = 3 := by decide
   rw [g1, w2]
   exact fin (sum + (3), great, kn + 1, dk, lt) (by simp [w1, asrt]) (by simp [asrt]; omega) ⟨by simp only; omega, by simp only; omega, by simp only; omega, by simp only; omega, by simp only; omega⟩
  ·rw [h]
   have w1 : w64 (sum + (3 : Int)) = sum + (3) := by rw [w64_of (by omega)]
   have w2 : w64 (sum + w64 (sg (3) * 3)) = sum + (3) := by rw [show w64 (sg (3) * 3) = 3 by decide]; exact w64_of (by omega)
   have g1 : geti ([0, 1, 3, 3, 5, 9, 0] : List Int) ((((3 : Int).natAbs : Nat) : Int)) = 3 := by decide
   rw [g1, w2]
   rcases hpar with hp | hp
   ·rw [hp]
    exact fin (sum + (3), great, kn, dk + 1, lt) (by simp [w1, wd, asrt, geti]) (by simp [asrt]; omega) ⟨by simp only; omega, by simp only; omega, by simp only; omega, by simp only; omega, by simp only; omega⟩
   ·rw [hp]
    exact fin (sum + (3), great, kn, dk, lt + 1) (by simp [w1, wl, asrt, geti]) (by simp [asrt]; omega) ⟨by simp only; omega, by simp only; omega, by simp only; omega, by simp only; omega, by simp only; omega⟩
  ·rw [h]
   have w1 : w64 (sum + (5 : Int)) = sum + (5) := by rw [w64_of (by omega)]
   have w2 : w64 (sum + w64 (sg (4) * 5)) = sum + (5) := by rw [show w64 (sg (4) * 5) = 5 by decide]; exact w64_of (by omega)
   have g1 : geti ([0, 1, 3, 3, 5, 9, 0] : List Int) ((((4 : Int).natAbs : Nat) : Int)) = 5 := by decide
   rw [g1, w2]
   exact fin (sum + (5), great + 1, kn, dk, lt) (by simp [w1, asrt]) (by simp [hgr, asrt]) ⟨by simp only; omega, by simp only; omega, by simp only; omega, by simp only; omega, by simp only; omega⟩
  ·rw [h]
   have w1 : w64 (sum + (9 : Int)) = sum + (9) := by rw [w64_of (by omega)]
   have w2 : w64 (sum + w64 (sg (5) * 9)) = sum + (9) := by rw [show w64 (sg (5) * 9) = 9 by decide]; exact w64_of (by omega)
   have g1 : geti ([0, 1, 3, 3, 5, 9, 0] : List Int) ((((5 : Int).natAbs : Nat) : Int)) = 9 := by decide
   rw [g1, w2]
   exact fin (sum + (9), great + 1, kn, dk, lt) (by simp [w1, asrt]) (by simp [hgr, asrt]) ⟨by simp only; omega, by simp only; omega, by simp only; omega, by simp only; omega, by simp only; omega⟩
  ·rw [h]
   have w1 : w64 (sum + (0 : Int)) = sum + (0) := by rw [w64_of (by omega)] <;> omega
   have w2 : w64 (sum + w64 (sg (6) * 0)) = sum + (0) := by rw [show w64 (sg (6) * 0) = 0 by decide]; exact w64_of (by omega)
   have g1 : geti ([0, 1, 3, 3, 5, 9, 0] : List Int) ((((6 : Int).natAbs : Nat) : Int)) = 0 := by decide
   rw [g1, w2]
   exact fin (sum + (0), great, kn, dk, lt) (by simp [w0, asrt]) (by simp [asrt]) ⟨by simp only; omega, by simp only; omega, by simp only; omega, by simp only; omega, by simp only; omega⟩
  ) (by
  rintro ⟨sum, great, kn, dk, lt⟩ hI
  refine ⟨_, _, ?_, ?_, ⟨(sum, great, kn, dk, lt), hI, rfl, rfl⟩⟩
  ·simp only [chess_Material_L1]
   rw [if_neg (by rw [hs.1]; simp)]
  ·simp only [rf_MaterialOf_L1]
   rw [if_neg (by simp)])
 obtain ⟨r1, r2, h1, h2, ⟨sum, great, kn, dk, lt⟩, ⟨i1, i2, i3, i4, i5⟩, rfl, rfl⟩ := key
 have h1' : loop (chess_Material_L1 p) (0, 0, 0, [0, 0], 0) = _ := h1
 have h2' : loop (rf_MaterialOf_L1 p) (0, 0, 0, 0, 0, true, 0) = _ := h2
 rw [h1', h2', Option.bind_some, Option.bind_some]
 simp only at i1 i2 i3 i4 i5
 simp only [chess_Material_K1, rf_MaterialOf_K1]
 unfold chess_Material_J2 rf_MaterialOf_J1
 rw [asrt_pos (by decide), asrt_pos (by decide), asrt_pos (fun _ _ => by decide), asrt_pos (fun _ _ => by decide), show geti [dk, lt] 0 = dk from rfl, show geti [dk, lt] 1 = lt from rfl, w64_of (x := kn + dk) (by omega), w64_of (x := kn + dk + lt) (by omega)]
 refine ⟨_, _, ⟨?_, ?_⟩, rfl, ?_⟩
 ·omega
 ·omega
 congr 2
 have e : (minI dk lt == 0) = (lt == 0 || dk == 0) := by
  rw [Bool.eq_iff_iff]
  simp only [Bool.or_eq_true, beq_iff_eq]
  unfold minI
  split <;> omega
 rw [e]
 have e2 : (great == 0) = decide (great = 0) := by
  rw [Bool.eq_iff_iff, beq_iff_eq, decide_eq_true_eq]
 rw [e2]
theorem rows_both : ∀ (d : Nat) (p : List Int) (t c e h f : Int) (res : Int), d ≤ 3 → res = 1 ∨ res = 2 → Inv p t c e h f → ∃ v : Int, 0 ≤ v ∧ v ≤ (20000 ^ d : Nat) ∧ problems_Rows_1_mF (d + 1) p t c e h f d res = some v ∧ rf_RowsOf18_mF (d + 1) p t c e h f d res = some v
 | 0, p, t, c, e, h, f, res, _, hr, I => by
  have e1 : problems_Rows_1_mF (0 + 1) p t c e h f ((0 : Nat) : Int) res = problems_Rows_1_B (problems_Rows_1_mF 0) p t c e h f ((0 : Nat) : Int) res := rfl
  have e2 : rf_RowsOf18_mF (0 + 1) p t c e h f ((0 : Nat) : Int) res = rf_RowsOf18_B (rf_RowsOf18_mF 0) p t c e h f ((0 : Nat) : Int) res := rfl
  rw [e1, e2]
  obtain ⟨m, d, _, k1, k2⟩ := material_both I.sm t c e h f
  have hck := check_both I.sm I.tt (I.king t I.tt)
  unfold problems_Rows_1_B rf_RowsOf18_B rf_ResultOf_m rf_ResultOf_J1 rf_ResultOf_J2 rf_ResultOf_J3 rf_ResultOf_J4 problems_Rows_1_J2 rf_RowsOf18_J2
  rw [moves_p I, all_p I, hck.1, hck.2, k2, show (((0 : Nat) : Int) == 0) = true from rfl]
  simp only [Option.bind_some, if_true]
  by_cases h0 : (refL p t c e).length = 0
  ·have e0 : (((refL p t c e).length : Int) == 0) = true := by simp [h0]
   rw [e0]
   simp only [if_true, Option.bind_some, Bool.true_and]
   cases inChk p t <;> rcases hr with rfl | rfl
   ·exact ⟨0, by omega, by omega, rfl, rfl⟩
   ·exact ⟨1, by omega, by decide, rfl, rfl⟩
   ·exact ⟨1, by omega, by decide, rfl, rfl⟩
   ·exact ⟨0, by omega, by omega, rfl, rfl⟩
  ·have e0 : (((refL p t c e).length : Int) == 0) = false := by simpa using h0
   rw [e0]
   simp only [Bool.false_eq_true, if_false, Option.bind_some, Bool.false_and]
   refine ⟨0, by omega, by omega, rfl, ?_⟩
   cases d with
   | true => rcases hr with rfl | rfl <;> rfl
   | false =>
    simp only [Bool.false_eq_true, if_false]
    by_cases hh : (100 : Int) ≤ h
    ·rw [decide_eq_true hh]; rcases hr with rfl | rfl <;> rfl
    ·rw [decide_eq_false hh]; rcases hr with rfl | rfl <;> rfl
 | d + 1, p, t, c, e, h, f, res, hd, hr, I => by
  have hl := refL_len I
  have hpow : (20000 : Nat) ^ d ≤ 400000000 := by
   have : d = 0 ∨ d = 1 ∨ d = 2 := by omega
   rcases this with rfl | rfl | rfl <;> decide
  have hw : w64 (((d + 1 : Nat) : Int) - 1) = (d : Int) := by rw [w64_of (by omega)]; omega
  have hmul : (refL p t c e).length * 20000 ^ d ≤ 20000 * 20000 ^ d := Nat.mul_le_mul_right _ hl
  have hbig : 20000 * 20000 ^ d ≤ 8000000000000 := by omega
  obtain ⟨T, t0, tV, l1, l2⟩ := two_sum (s1 := problems_Rows_1_L1 (problems_Rows_1_mF (d + 1)) p t c e h f ((d + 1 : Nat) : Int) res (refL p t c e)) (s2 := rf_RowsOf18_L1 (rf_RowsOf18_mF (d + 1)) p t c e h f ((d + 1 : Nat) : Int) res (refL p t c e)) (refL p t c e).length (20000 ^ d) (fun i hi => by
   obtain ⟨m, hm⟩ : ∃ m, (refL p t c e)[i]? = some m := ⟨_, List.getElem?_eq_getElem hi⟩
   obtain ⟨q, t', c', e', h', f', a1, a2, I', _⟩ := step_p I (List.mem_of_getElem? hm)
   obtain ⟨v, v0, vV, r1, r2⟩ := rows_both d q t' c' e' h' f' res (by omega) hr I'
   refine ⟨v, v0, vV, fun n n0 nV => ?_⟩
   have hiV : i * 20000 ^ d ≤ (refL p t c e).length * 20000 ^ d := Nat.mul_le_mul_right _ (by omega)
   have hg : getd ((0, 0, 0) : Int × Int × Int) (refL p t c e) (i : Int) = m := getd_some hm
   constructor
   ·simp only [problems_Rows_1_L1]
    rw [if_pos (decide_eq_true (by omega))]
    unfold problems_Rows_1_J4 problems_Rows_1_J5
    rw [asrt_pos (by omega), hg, a1, Option.bind_some, hw, r1, Option.bind_some, w64_of (x := n + v) (by omega), w64_of (by omega)]
    rfl
   ·simp only [rf_RowsOf18_L1]
    rw [if_pos (decide_eq_true (by omega))]
    unfold rf_RowsOf18_J4 rf_RowsOf18_J5
    rw [asrt_pos (by omega), hg, a2, Option.bind_some, hw, r2, Option.bind_some, w64_of (x := n + v) (by omega), w64_of (by omega)]
    rfl) (fun n => ⟨by simp only [problems_Rows_1_L1]; exact if_neg (by simp), by simp only [rf_RowsOf18_L1]; exact if_neg (by simp)⟩)
  refine ⟨T, t0, ?_, ?_, ?_⟩
  ·have : (20000 : Nat) ^ (d + 1) = 20000 * 20000 ^ d := by rw [Nat.pow_succ, Nat.mul_comm]
   omega
  ·show problems_Rows_1_B (problems_Rows_1_mF (d + 1)) p t c e h f ((d + 1 : Nat) : Int) res = _
   unfold problems_Rows_1_B problems_Rows_1_J1
   rw [moves_p I, Option.bind_some, if_neg (by simp; omega), l1, Option.bind_some]
   rfl
  ·show rf_RowsOf18_B (rf_RowsOf18_mF (d + 1)) p t c e h f ((d + 1 : Nat) : Int) res = _
   unfold rf_RowsOf18_B rf_RowsOf18_J1
   rw [if_neg (by simp; omega), all_p I, Option.bind_some, l2, Option.bind_some]
   rfl
end
end Go.Proofs.Ytfmmlmiakkjaiaa
