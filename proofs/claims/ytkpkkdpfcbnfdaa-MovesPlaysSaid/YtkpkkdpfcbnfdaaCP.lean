import Derived.Test.YtkpkkdpfcbnfdaaCM
import Derived.Test.YtkpkkdpfcbnfdaaLibKv
namespace Go.Proofs.Ytkpkkdpfcbnfdaa
open Go Go.GL Go.RowKit
section
variable {p : List Int} {t c e h f : Int} {a b : Nat} {k : Int}
theorem Inv.king (I : Inv p t c e h f) (s : Int) (hs : s = 0 ∨ s = 1) : ∃ b : Nat, b < 64 ∧ geti p b = kingV s := by
 obtain ⟨k, h1, h2⟩ := I.kg s hs
 exact ⟨k, h1, (h2 k h1).2 rfl⟩
def Ep3 (p : List Int) (t e : Int) : Prop := ∀ b : Nat, e = b → geti p ((b : Int) + 8 * sgn t) = 0
theorem next_ep3 (I : Inv p t c e h f) (m : PL p t c e a b k) : Ep3 (aft p t e a b k) (1 - t) (eAft p t a b) := by
 intro b' h'
 unfold eAft at h'
 by_cases hd : (geti p a).natAbs = 1 ∧ (b : Int) - a = 16 * sgn t
 ·rw [if_pos hd] at h'
  obtain ⟨q1, q2, q3, q4⟩ := eAft_dbl I m hd.1 hd.2
  have hb := m.bds I
  have hs1 : sgn (1 - t) = - sgn t := by unfold sgn; omega
  have ea : aft p t e a b k = (p.set a 0).set b (geti p a) := by
   unfold aft
   rw [if_pos hd.1, if_neg q4, if_neg (by omega)]
  have hab : a ≠ b := by
   rcases sgn_t I.tt with ⟨_, h⟩ | ⟨_, h⟩ <;> rw [h] at hd <;> omega
  rw [hs1, show (b' : Int) + 8 * -sgn t = (a : Int) by omega, ea, set2_get I.len hb.1 hb.2.1, if_neg hab, if_pos rfl]
 ·rw [if_neg hd] at h'; omega
theorem cnt_one {q : Nat → Bool} {k : Nat} (hk : q k = true) : ∀ n, (∀ j, j < n → (q j = true ↔ j = k)) → cntN q n = if k < n then 1 else 0
 | 0, _ => by simp [cntN]
 | n + 1, h => by
  have ih := cnt_one hk n (fun j hj => h j (by omega))
  simp only [cntN]
  rw [ih]
  by_cases e : n = k
  ·rw [if_pos ((h n (by omega)).2 e), if_neg (by omega), if_pos (by omega)]
  ·have : ¬ q n = true := fun q => e ((h n (by omega)).1 q)
   rw [if_neg this]
   by_cases e2 : k < n
   ·rw [if_pos e2, if_pos (by omega)]
   ·rw [if_neg e2, if_neg (by omega)]
theorem may_loop (hl : p.length = 64) (hs : Small p) (hbad : ∀ i : Nat, i < 64 → badP (geti p i) i = false) : loop (board_May_L1 p) ([0, 0], 0) = some (Fl.go [(cntV p 6 64 : Int), (cntV p (-6) 64 : Int)]) := by
 refine loop_from (fun n : Nat => ([(cntV p 6 n : Int), (cntV p (-6) n : Int)], (n : Int))) 64 rfl (fun n hn => ?_) ?_
 ·have c1 : cntV p 6 n ≤ n := cntN_le _ _
  have c2 : cntV p (-6) n ≤ n := cntN_le _ _
  have s1 : cntV p 6 (n + 1) = cntV p 6 n + if geti p n = 6 then 1 else 0 := by simp [cntV, cntN]
  have s2 : cntV p (-6) (n + 1) = cntV p (-6) n + if geti p n = -6 then 1 else 0 := by simp [cntV, cntN]
  have hb := hbad n hn
  unfold badP at hb
  simp only [board_May_L1]
  rw [if_pos (decide_eq_true (by rw [hl]; omega))]
  unfold board_May_J3 board_May_J5 board_May_J4
  rw [asrt_pos (by rw [hl]; omega), w64_of (x := (n : Int) + 1) (by omega)]
  have hx := hs.2 n hn
  rw [kind_small hx, Option.bind_some, side_eq]
  have h7 : geti p n = -6 ∨ geti p n = -5 ∨ geti p n = -4 ∨ geti p n = -3 ∨ geti p n = -2 ∨ geti p n = -1 ∨ geti p n = 0 ∨ geti p n = 1 ∨ geti p n = 2 ∨ geti p n = 3 ∨ geti p n = 4 ∨ geti p n = 5 ∨ geti p n = 6 := by omega
  have w1 : w64 ((cntV p 6 n : Int) + 1) = (cntV p 6 n : Int) + 1 := w64_of (by omega)
  have w2 : w64 ((cntV p (-6) n : Int) + 1) = (cntV p (-6) n : Int) + 1 := w64_of (by omega)
  rcases h7 with h | h | h | h | h | h | h | h | h | h | h | h | h <;> rw [h] at s1 s2 hb ⊢ <;> simp at s1 s2 hb <;> rw [s1, s2]
  all_goals simp [sideI, geti, w1, w2, asrt]
  all_goals omega
 ·simp only [board_May_L1]
  rw [if_neg (by rw [hl]; simp)]
theorem pass_true (I : Inv p t c e h f) (h3 : Ep3 p t e) (he : e ≠ -1) : board_passant_m p t c e h f = some true := by
 rcases I.ep with h0 | ⟨b, rfl, b1, b2, b3⟩
 ·exact absurd h0 he
 have h3 := h3 b rfl
 have hl := I.len
 unfold board_passant_m
 rcases I.tt with rfl | rfl
 ·rw [forward_small (by decide), show (1 - 2 * (0 : Int)) = 1 from rfl]
  simp only [Option.bind_some]
  rw [show w64 (5 - w64 (3 * 0)) = ((5 : Nat) : Int) by decide, rank_b (b : Int) 5 (by decide), show w64 (8 * 1) = 8 by decide, show w64 (w64 (0 - 1) * 1) = -1 by decide, w64_of (x := (b : Int) - 8) (by omega), w64_of (x := (b : Int) + 8) (by omega)]
  rw [show sgn 0 = 1 from rfl] at b3 h3
  rw [show (b : Int) - 8 * 1 = (b : Int) - 8 from rfl] at b3
  rw [show (b : Int) + 8 * 1 = (b : Int) + 8 from rfl] at h3
  repeat rw [asrt_pos (fun _ => by omega)]
  rw [b2, b3, h3, decide_eq_true (by omega), decide_eq_true (by omega)]
  rfl
 ·rw [forward_small (by decide), show (1 - 2 * (1 : Int)) = -1 from rfl]
  simp only [Option.bind_some]
  rw [show w64 (5 - w64 (3 * 1)) = ((2 : Nat) : Int) by decide, rank_b (b : Int) 2 (by decide), show w64 (8 * -1) = -8 by decide, show w64 (w64 (0 - -1) * 1) = 1 by decide, w64_of (x := (b : Int) - -8) (by omega), w64_of (x := (b : Int) + -8) (by omega)]
  rw [show sgn 1 = -1 from rfl] at b3 h3
  rw [show (b : Int) - 8 * -1 = (b : Int) - -8 from rfl] at b3
  rw [show (b : Int) + 8 * -1 = (b : Int) + -8 from rfl] at h3
  repeat rw [asrt_pos (fun _ => by omega)]
  rw [b2, b3, h3, decide_eq_true (by omega), decide_eq_true (by omega)]
  rfl
theorem inv_may (I : Inv p t c e h f) (h3 : Ep3 p t e) : board_May_m p t c e h f = some true := by
 have hl := I.len
 have i1 := I.tt
 have i2 := I.cc
 have i3 := I.hh
 have i4 := I.ff
 unfold board_May_m
 rw [if_neg (by simp only [Bool.or_eq_true, bne_iff_ne, decide_eq_true_eq, not_or, Decidable.not_not]; omega)]
 unfold board_May_J1
 rw [show List.replicate 2 (0 : Int) = [0, 0] from rfl, may_loop hl I.sm (fun i hi => by
  have hx := I.sm.2 i hi
  have hp := I.pw i hi
  unfold badP
  simp only [Bool.or_eq_false_iff, Bool.and_eq_false_iff, decide_eq_false_iff_not, Bool.not_eq_false', Bool.and_eq_true, decide_eq_true_eq]
  refine ⟨hx, ?_⟩
  by_cases h1 : (geti p i).natAbs = 1
  ·right; have := hp h1; omega
  ·exact .inl h1), Option.bind_some]
 simp only [board_May_K1]
 unfold board_May_J2
 have g0 : ∀ a b : Int, geti [a, b] 0 = a ∧ geti [a, b] 1 = b := fun a b => ⟨rfl, rfl⟩
 rw [(g0 _ _).1, (g0 _ _).2, (g0 _ _).1, (g0 _ _).2]
 have k6 : cntV p 6 64 = 1 := by
  obtain ⟨k, hk, hu⟩ := I.kg 0 (.inl rfl)
  unfold cntV
  rw [cnt_one (k := k) (decide_eq_true ((hu k hk).2 rfl)) 64 (fun j hj => by rw [decide_eq_true_eq]; exact hu j hj), if_pos hk]
 have km : cntV p (-6) 64 = 1 := by
  obtain ⟨k, hk, hu⟩ := I.kg 1 (.inr rfl)
  unfold cntV
  rw [cnt_one (k := k) (decide_eq_true ((hu k hk).2 rfl)) 64 (fun j hj => by rw [decide_eq_true_eq]; exact hu j hj), if_pos hk]
 have hck := check_both I.sm (side := 1 - t) (by omega) (I.king (1 - t) (by omega))
 rw [k6, km, w64_of (by omega), hck.1, I.sf]
 show board_May_J6 p t c e h f = some true
 unfold board_May_J6
 have hc2 : loop (board_May_L2 p c) 0 = some (Fl.go ()) := by
  obtain ⟨b, d1, _⟩ := cast_both hl c
  cases b with
  | false => exact d1
  | true =>
   exfalso
   have key : ∀ (n : Nat) (k r f : Int), n < 4 → (cbit c n = true → geti p k = 6 * f ∧ geti p r = 4 * f) → castC p c (n : Int) k r f = false := by
    intro n k r f hn h
    unfold castC
    rw [bit_p i2 hn]
    cases hb : cbit c n with
    | false => rfl
    | true =>
     obtain ⟨h1, h2⟩ := h hb
     rw [h1, h2]
     simp
   have c0 := key 0 4 7 1 (by omega) (I.cs 0 (by omega))
   have c1 := key 1 4 0 1 (by omega) (I.cs 1 (by omega))
   have c2 := key 2 60 63 (-1) (by omega) (fun hb => by simpa [homeK, homeR, sgn] using I.cs 2 (by omega) hb)
   have c3 := key 3 60 56 (-1) (by omega) (fun hb => by simpa [homeK, homeR, sgn] using I.cs 3 (by omega) hb)
   have e4 : board_May_L2 p c 4 = some (.done (.go ())) := by simp [board_May_L2]
   have e0 := cast0_p hl c
   have e1 := cast1_p hl c
   have e2 := cast2_p hl c
   have e3 := cast3_p hl c
   rw [show ((0 : Nat) : Int) = 0 from rfl] at c0
   rw [show ((1 : Nat) : Int) = 1 from rfl] at c1
   rw [show ((2 : Nat) : Int) = 2 from rfl] at c2
   rw [show ((3 : Nat) : Int) = 3 from rfl] at c3
   rw [c0] at e0
   rw [c1] at e1
   rw [c2] at e2
   rw [c3] at e3
   have := loop_next' e0 (loop_next' e1 (loop_next' e2 (loop_next' e3 (loop_done e4))))
   rw [this] at d1
   simp at d1
 rw [hc2, Option.bind_some]
 simp only [board_May_K2]
 unfold board_May_J7
 by_cases he : e = -1
 ·subst he; rfl
 ·have e9 : (e == -1) = false := by simpa using he
  rw [e9, pass_true I h3 he]
  rfl
theorem step_q (I : Inv p t c e h f) {m : Mv} (hm : m ∈ refL p t c e) : ∃ q t' c' e' h' f', board_After_m p t c e h f m.1 m.2.1 m.2.2 = some (q, t', c', e', h', f') ∧ rf_MoveDone_m p t c e h f m.1 m.2.1 m.2.2 = some (q, t', c', e', h', f') ∧ Inv q t' c' e' h' f' ∧ board_May_m q t' c' e' h' f' = some true := by
 obtain ⟨a, b, k, rfl, m, hs⟩ := ref_pl I hm
 exact ⟨_, _, _, _, _, _, after_p I m, done_p I m (.inl rfl), I.next m hs, inv_may (I.next m hs) (next_ep3 I m)⟩
end
section
variable {p : List Int}
theorem chessOf_any (hl : p.length ≤ 17592186043904) (t c e h f : Int) : rf_ChessOf_m p t c e h f = some (p, t, c, e, h, f) := by
 unfold rf_ChessOf_m rf_Ints_m
 rw [asrt_pos (by unfold bigN; omega)]
 simp
end
section
theorem sameInts_eq {a b : List Int} (ha : a.length ≤ 17592186044416) : rf_sameInts_m a b = some (decide (a = b)) := by
 unfold rf_sameInts_m
 by_cases hl : a.length = b.length
 ·rw [if_neg (by simp [hl])]
  unfold rf_sameInts_J1
  have h := count_loop (step := rf_sameInts_L1 a b) (fun (_ : Unit) k => (k : Int)) (fun k _ => ∀ i, i < k → a[i]? = b[i]?) (fun r => rf_sameInts_K1 r = some (decide (a = b))) a.length () (fun i hi => by omega) ?_ ?_
  ·obtain ⟨r, h1, h2⟩ := h
   have h1' : loop (rf_sameInts_L1 a b) 0 = some r := h1
   rw [h1']
   exact h2
  ·intro i _ hi hI
   obtain ⟨x, hx⟩ : ∃ x, a[i]? = some x := ⟨_, List.getElem?_eq_getElem hi⟩
   obtain ⟨y, hy⟩ : ∃ y, b[i]? = some y := ⟨_, List.getElem?_eq_getElem (by omega)⟩
   simp only [rf_sameInts_L1, rf_sameInts_J3]
   rw [if_pos (by simpa using hi), asrt_pos (idx_bd hx), asrt_pos (idx_bd hy), geti_some hx, geti_some hy]
   by_cases hxy : x = y
   ·left
    rw [if_neg (by simp [hxy])]
    refine ⟨(), by simp only [rf_sameInts_J4]; rw [w64_succ (by omega)]; rfl, fun j hj => ?_⟩
    by_cases hji : j = i
    ·subst hji; rw [hx, hy, hxy]
    ·exact hI j (by omega)
   ·right
    rw [if_pos (by simp [hxy])]
    refine ⟨_, rfl, ?_⟩
    have hne : a ≠ b := fun h => hxy (by rw [h, hy] at hx; exact (Option.some.inj hx).symm)
    simp [rf_sameInts_K1, hne]
  ·intro _ hI
   refine ⟨Fl.go (), ?_, ?_⟩
   ·simp only [rf_sameInts_L1]
    rw [if_neg (by simp)]
   ·have : a = b := by
     apply List.ext_getElem?
     intro i
     by_cases hi : i < a.length
     ·exact hI i hi
     ·rw [List.getElem?_eq_none (by omega), List.getElem?_eq_none (by omega)]
    simp [rf_sameInts_K1, rf_sameInts_J2, this]
 ·rw [if_pos (by simp; omega)]
  have : a ≠ b := fun h => hl (by rw [h])
  simp [this]
end
theorem mv3 (x : Int × Int × Int) (a b c : Int) : (((x.1 == a) && ((x.2.1 == b) && (x.2.2 == c))) = true) ↔ x = (a, b, c) := by
 obtain ⟨x1, x2, x3⟩ := x
 simp only [Bool.and_eq_true, beq_iff_eq, Prod.mk.injEq]
theorem mv3' (x : Int × Int × Int) (a b c : Int) : (((a == x.1) && ((b == x.2.1) && (c == x.2.2))) = true) ↔ x = (a, b, c) := by
 obtain ⟨x1, x2, x3⟩ := x
 simp only [Bool.and_eq_true, beq_iff_eq, Prod.mk.injEq]
 omega
def midx (l : List Mv) (m : Mv) : Int := fidx (fun y => decide (y = m)) l
theorem moveIdx_p {l : List Mv} (hl : l.length ≤ 1000000) (a b c : Int) : api_Move_4_m l a b c = some (midx l (a, b, c)) := by
 unfold api_Move_4_m
 rw [search_loop (l := l) (fun y => decide (y = (a, b, c))) (fun i => Fl.ret (i : Int)) (Fl.go ()) ?_ ?_ ?_]
 ·unfold midx fidx
  cases l.findIdx? (fun y => decide (y = (a, b, c))) <;> rfl
 ·intro i x hx hp
  have hb := idx_bd hx
  simp only [api_Move_4_L1, api_Move_4_J2]
  rw [if_pos (by simpa using hb.2), asrt_pos hb, getd_some hx, if_pos ((mv3' x a b c).2 (of_decide_eq_true hp))]
 ·intro i x hx hp
  have hb := idx_bd hx
  simp only [api_Move_4_L1, api_Move_4_J2]
  rw [if_pos (by simpa using hb.2), asrt_pos hb, getd_some hx, if_neg (fun q => of_decide_eq_false hp ((mv3' x a b c).1 q))]
  simp only [api_Move_4_J3]
  rw [w64_succ (by omega)]
 ·simp only [api_Move_4_L1]
  rw [if_neg (by simp)]
theorem moveAt_p {l : List Mv} (hl : l.length ≤ 1000000) (a b c : Int) : rf_MoveAt_m l a b c = some (midx l (a, b, c)) := by
 unfold rf_MoveAt_m
 rw [search_loop (l := l) (fun y => decide (y = (a, b, c))) (fun i => Fl.ret (i : Int)) (Fl.go ()) ?_ ?_ ?_]
 ·unfold midx fidx
  cases l.findIdx? (fun y => decide (y = (a, b, c))) <;> rfl
 ·intro i x hx hp
  have hb := idx_bd hx
  simp only [rf_MoveAt_L1, rf_MoveAt_J2]
  rw [if_pos (by simpa using hb.2), asrt_pos hb, getd_some hx, if_pos ((mv3 x a b c).2 (of_decide_eq_true hp))]
 ·intro i x hx hp
  have hb := idx_bd hx
  simp only [rf_MoveAt_L1, rf_MoveAt_J2]
  rw [if_pos (by simpa using hb.2), asrt_pos hb, getd_some hx, if_neg (fun q => of_decide_eq_false hp ((mv3 x a b c).1 q))]
  simp only [rf_MoveAt_J3]
  rw [w64_succ (by omega)]
 ·simp only [rf_MoveAt_L1]
  rw [if_neg (by simp)]
theorem midx_mem {l : List Mv} {m : Mv} (h : 0 ≤ midx l m) : m ∈ l := by
 unfold midx at h
 rw [fidx_neg, List.any_eq_true] at h
 obtain ⟨x, hx, e⟩ := h
 rw [of_decide_eq_true e] at hx
 exact hx
section
variable {p : List Int} {t c e h f : Int}
theorem do_no (I : Inv p t c e h f) (hm : board_May_m p t c e h f = some true) (m1 m2 m3 : Int) : moves_Do_m p t c e h f m1 m2 m3 = if 0 ≤ midx (refL p t c e) (m1, m2, m3) then moves_Do_J1 p t c e h f m1 m2 m3 else some ([], 0, 0, 0, 0, 0, 8) := by
 have hl := refL_len I
 unfold moves_Do_m
 rw [hm]
 simp only [Option.bind_some, Bool.not_true, Bool.false_eq_true, if_false]
 rw [moves_p I, Option.bind_some]
 unfold api_Move_3_m moves_Do_J2
 rw [moveIdx_p (by omega)]
 simp only [Option.bind_some]
 by_cases hq : 0 ≤ midx (refL p t c e) (m1, m2, m3)
 ·rw [if_pos hq, decide_eq_true hq]; rfl
 ·rw [if_neg hq, decide_eq_false hq]; rfl
end
end Go.Proofs.Ytkpkkdpfcbnfdaa
namespace Go.Proofs.Ytkpkkdpfcbnfdaa
open Go Go.GL Go.RowKit
section
variable {p q : List Int} {t c e h f t2 c2 e2 h2 f2 : Int}
def ovB (p : List Int) (e : Int) (l : List Mv) : Bool := l.any fun m => decide (m.2.1 = e) && decide ((geti p m.1).natAbs = 1)
def ovE (p : List Int) (e : Int) (l : List Mv) : Int := if ovB p e l = true then e else -1
theorem refL_in (I : Inv p t c e h f) {m : Mv} (hm : m ∈ refL p t c e) : (0 ≤ m.1 ∧ m.1 < 64) ∧ 0 ≤ m.2.1 ∧ m.2.1 < 64 := by
 obtain ⟨a, b, k, rfl, hp, _⟩ := ref_pl I hm
 have hb := hp.bds I
 exact ⟨⟨by simp [mv], by simp [mv]; omega⟩, by simp [mv], by simp [mv]; omega⟩
theorem ov_e (I : Inv p t c e h f) (hv : ovB p e (refL p t c e) = true) : 0 ≤ e := by
 unfold ovB at hv
 obtain ⟨m, hm, h1⟩ := List.any_eq_true.1 hv
 have := refL_in I hm
 rw [Bool.and_eq_true, decide_eq_true_eq] at h1
 omega
theorem small_at (I : Inv p t c e h f) {x : Int} (hx : 0 ≤ x ∧ x < 64) : -6 ≤ geti p x ∧ geti p x ≤ 6 := by
 obtain ⟨n, rfl⟩ : ∃ n : Nat, x = n := ⟨x.toNat, by omega⟩
 exact I.sm.2 n (by omega)
theorem key_loop (I : Inv p t c e h f) : loop (moves_keyOf_L1 p e (refL p t c e)) (-1, 0) = some (ovE p e (refL p t c e)) := by
 have hl := refL_len I
 have key := count_loop (step := moves_keyOf_L1 p e (refL p t c e)) (fun (k : Int) (i : Nat) => (k, (i : Int)))
  (fun n k => k = ovE p e ((refL p t c e).take n)) (fun r => r = ovE p e (refL p t c e)) (refL p t c e).length (-1) (by simp [ovE, ovB]) (by
   rintro i k hi rfl
   left
   have hg : (refL p t c e)[i]? = some ((refL p t c e)[i]) := List.getElem?_eq_getElem hi
   have hm := refL_in I (List.mem_of_getElem? hg)
   have hp : p.length = 64 := I.len
   simp only [moves_keyOf_L1]
   rw [if_pos (by simp; omega)]
   unfold moves_keyOf_J2
   rw [getd_some hg, asrt_pos (by omega), asrt_pos (fun _ => by omega)]
   have hk := kind_small (small_at I hm.1)
   have ht : ovE p e ((refL p t c e).take (i + 1)) = if (decide ((refL p t c e)[i].2.1 = e) && decide ((geti p (refL p t c e)[i].1).natAbs = 1)) = true then e else ovE p e ((refL p t c e).take i) := by
    unfold ovE ovB
    rw [List.take_add_one, hg]
    simp only [Option.toList_some, List.any_append, List.any_cons, List.any_nil, Bool.or_false, Bool.or_eq_true]
    by_cases h1 : (decide ((refL p t c e)[i].2.1 = e) && decide ((geti p (refL p t c e)[i].1).natAbs = 1)) = true
    ·rw [if_pos (.inr h1), if_pos h1]
    ·have h1' := Bool.eq_false_iff.2 h1
     simp only [h1', Bool.false_eq_true, or_false, if_false]
   by_cases h1 : (refL p t c e)[i].2.1 = e
   ·rw [if_pos (by rw [beq_iff_eq]; exact h1), hk, Option.bind_some]
    by_cases h2 : (geti p (refL p t c e)[i].1).natAbs = 1
    ·rw [if_pos (by simp [h1, h2])]
     unfold moves_keyOf_J3
     refine ⟨_, by rw [w64_succ (by omega)]; rfl, ?_⟩
     rw [ht, if_pos (by simp [h1, h2])]
    ·rw [if_neg (by simp [h1]; omega)]
     unfold moves_keyOf_J3
     refine ⟨_, by rw [w64_succ (by omega)]; rfl, ?_⟩
     rw [ht, if_neg (by simp [h2])]
   ·rw [if_neg (by rw [beq_iff_eq]; exact h1), Option.bind_some, if_neg (by simp)]
    unfold moves_keyOf_J3
    refine ⟨_, by rw [w64_succ (by omega)]; rfl, ?_⟩
    rw [ht, if_neg (by simp [h1])]) (by
   rintro k rfl
   simp only [moves_keyOf_L1]
   rw [if_neg (by simp)]
   exact ⟨_, rfl, by rw [List.take_length]⟩)
 obtain ⟨r, hr, rfl⟩ := key
 exact hr
theorem put64 {p : List Int} (hp : p.length = 64) : putL (pad 64 (List.replicate 64 (0 : Int))) 0 (List.take 64 p) = p := by
 unfold putL
 rw [List.take_of_length_le (l := p) (by omega), List.take_zero, List.nil_append, List.drop_eq_nil_of_le (by rw [pad_length]; omega), List.append_nil]
theorem keyOf_p (I : Inv p t c e h f) : moves_keyOf_m p t c e h f = some (p, t, c, ovE p e (refL p t c e)) := by
 unfold moves_keyOf_m
 rw [moves_p I, Option.bind_some, key_loop I, Option.bind_some]
 unfold moves_keyOf_K1 moves_keyOf_J1
 simp only
 rw [put64 I.len]
theorem over_p (I : Inv p t c e h f) : rf_overMay_m p t c e h f = some (ovB p e (refL p t c e)) := by
 have hl := refL_len I
 have hp : p.length = 64 := I.len
 unfold rf_overMay_m
 rw [all_p I, Option.bind_some, search_loop (l := refL p t c e) (fun m => decide (m.2.1 = e) && decide ((geti p m.1).natAbs = 1)) (fun _ => Fl.ret true) (Fl.go ()) ?_ ?_ ?_]
 ·unfold ovB
  cases hx : (refL p t c e).findIdx? (fun m => decide (m.2.1 = e) && decide ((geti p m.1).natAbs = 1)) with
  | none =>
   rw [Option.bind_some]
   unfold rf_overMay_K1 rf_overMay_J1
   simp only
   congr 1
   symm
   rw [Bool.eq_false_iff]
   intro h1
   obtain ⟨m, hm, h2⟩ := List.any_eq_true.1 h1
   rw [List.findIdx?_eq_none_iff] at hx
   have := hx m hm
   rw [h2] at this
   cases this
  | some i =>
   rw [Option.bind_some]
   unfold rf_overMay_K1
   simp only
   congr 1
   symm
   obtain ⟨h1, h2, _⟩ := List.findIdx?_eq_some_iff_getElem.1 hx
   exact List.any_eq_true.2 ⟨_, List.getElem_mem h1, h2⟩
 ·intro i m hx hq
  have hb := idx_bd hx
  have hm := refL_in I (List.mem_of_getElem? hx)
  rw [Bool.and_eq_true, decide_eq_true_eq, decide_eq_true_eq] at hq
  have he : (0 : Int) ≤ e := by omega
  simp only [rf_overMay_L1]
  rw [if_pos (by simpa using hb.2)]
  unfold rf_overMay_J2
  have hsm := small_at I hm.1
  rw [getd_some hx, asrt_pos (fun _ => hb), asrt_pos (fun _ => hb), asrt_pos (fun _ => by omega), if_pos (by simp [he, hq.1]), size_small (by omega), Option.bind_some, if_pos (by simp [he, hq.1, hq.2])]
 ·intro i m hx hq
  have hb := idx_bd hx
  have hm := refL_in I (List.mem_of_getElem? hx)
  simp only [rf_overMay_L1]
  rw [if_pos (by simpa using hb.2)]
  unfold rf_overMay_J2
  have hsm := small_at I hm.1
  rw [getd_some hx, asrt_pos (fun _ => hb), asrt_pos (fun _ => hb), asrt_pos (fun _ => by omega)]
  unfold rf_overMay_J3
  by_cases h1 : ((decide ((0 : Int) ≤ e)) && (m.2.1 == e)) = true
  ·rw [if_pos h1, size_small (by omega), Option.bind_some, if_neg, w64_succ (by omega)]
   rw [h1, Bool.true_and, beq_iff_eq]
   intro h2
   rw [Bool.and_eq_true, beq_iff_eq] at h1
   rw [Bool.and_eq_false_iff, decide_eq_false_iff_not, decide_eq_false_iff_not] at hq
   rcases hq with hq | hq
   ·exact hq h1.2
   ·omega
  ·rw [if_neg h1, Option.bind_some, if_neg, w64_succ (by omega)]
   rw [Bool.eq_false_iff.2 h1]
   simp
 ·simp only [rf_overMay_L1]
  rw [if_neg (by simp)]
def keyP (x : List Int × Int × Int × Int × Int × Int) : KV 64 := (mkV 64 x.1, x.2.1, x.2.2.1, ovE x.1 x.2.2.2.1 (refL x.1 x.2.1 x.2.2.1 x.2.2.2.1))
theorem stand_p (I : Inv p t c e h f) (J : Inv q t2 c2 e2 h2 f2) : rf_sameStand_m p t c e h f q t2 c2 e2 h2 f2 = some (decide (keyP (p, t, c, e, h, f) = keyP (q, t2, c2, e2, h2, f2))) := by
 have hp : p.length = 64 := I.len
 have hq : q.length = 64 := J.len
 unfold rf_sameStand_m
 rw [sameInts_eq (by omega), Option.bind_some]
 by_cases h1 : p = q ∧ t = t2 ∧ c = c2
 ·obtain ⟨rfl, rfl, rfl⟩ := h1
  rw [if_neg (by simp)]
  unfold rf_sameStand_J1
  rw [over_p I, over_p J, Option.bind_some, Option.bind_some]
  congr 1
  unfold keyP ovE
  simp only [Prod.mk.injEq, true_and]
  have a1 := ov_e I
  have a2 := ov_e J
  generalize ovB p e (refL p t c e) = b1 at a1 ⊢
  generalize ovB p e2 (refL p t c e2) = b2 at a2 ⊢
  cases b1 <;> cases b2
  ·simp
  ·have := a2 rfl
   simp
   omega
  ·have := a1 rfl
   simp
   omega
  ·simp only [if_true, Bool.not_true, Bool.false_or, beq_self_eq_true, Bool.true_and]
   rw [Bool.eq_iff_iff]
   simp
 ·rw [if_pos]
  ·congr 1
   symm
   rw [decide_eq_false_iff_not]
   intro hk
   apply h1
   unfold keyP at hk
   simp only [Prod.mk.injEq] at hk
   exact ⟨mkV_inj hp hq hk.1, hk.2.1, hk.2.2.1⟩
  ·simp only [Bool.or_eq_true, Bool.not_eq_true', decide_eq_false_iff_not, bne_iff_ne]
   by_cases h2 : p = q
   ·by_cases h3 : t = t2
    ·exact .inr fun h4 => h1 ⟨h2, h3, h4⟩
    ·exact .inl (.inr h3)
   ·exact .inl (.inl h2)
end
end Go.Proofs.Ytkpkkdpfcbnfdaa
namespace Go.Proofs.Ytkpkkdpfcbnfdaa
open Go Go.GL Go.RowKit
abbrev Pos6 := List Int × Int × Int × Int × Int × Int
def InvP (x : Pos6) : Prop := Inv x.1 x.2.1 x.2.2.1 x.2.2.2.1 x.2.2.2.2.1 x.2.2.2.2.2
def cntP (k : KV 64) (l : List Pos6) : Int := ((l.filter fun y => decide (keyP y = k)).length : Int)
theorem cntP_le (k : KV 64) (l : List Pos6) : cntP k l ≤ l.length := by
 unfold cntP
 have := List.length_filter_le (fun y => decide (keyP y = k)) l
 omega
theorem cntP_nn (k : KV 64) (l : List Pos6) : 0 ≤ cntP k l := by unfold cntP; omega
theorem cntP_app (k : KV 64) (l : List Pos6) (y : Pos6) : cntP k (l ++ [y]) = cntP k l + if keyP y = k then 1 else 0 := by
 unfold cntP
 rw [List.filter_append, List.length_append]
 by_cases h : keyP y = k
 ·simp [h]
 ·simp [h]
theorem both_loopE {σ S1 R1 S2 R2 : Type} {step1 : S1 → Option (St S1 R1)} {step2 : S2 → Option (St S2 R2)} (mk1 : σ → Nat → S1) (mk2 : σ → Nat → S2) (I : Nat → σ → Prop) (Post : R1 → R2 → Prop) (n : Nat) (s : σ) (hI : I 0 s)
  (h2 : ∀ i s, i < n → I i s → (∃ s', step1 (mk1 s i) = some (.next (mk1 s' (i + 1))) ∧ step2 (mk2 s i) = some (.next (mk2 s' (i + 1))) ∧ I (i + 1) s') ∨ (∃ r1 r2, loop step1 (mk1 s i) = some r1 ∧ loop step2 (mk2 s i) = some r2 ∧ Post r1 r2))
  (h3 : ∀ s, I n s → ∃ r1 r2, step1 (mk1 s n) = some (.done r1) ∧ step2 (mk2 s n) = some (.done r2) ∧ Post r1 r2) : ∃ r1 r2, loop step1 (mk1 s 0) = some r1 ∧ loop step2 (mk2 s 0) = some r2 ∧ Post r1 r2 := by
 have key : ∀ m k s, k + m = n → I k s → ∃ r1 r2, loop step1 (mk1 s k) = some r1 ∧ loop step2 (mk2 s k) = some r2 ∧ Post r1 r2 := by
  intro m
  induction m with
  | zero =>
   intro k s hk hI
   obtain rfl : k = n := by omega
   obtain ⟨r1, r2, a, b, hp⟩ := h3 s hI
   exact ⟨r1, r2, loop_done a, loop_done b, hp⟩
  | succ m ih =>
   intro k s hk hI
   rcases h2 k s (by omega) hI with ⟨s', a, b, hI'⟩ | h
   ·obtain ⟨r1, r2, c, d, hp⟩ := ih (k + 1) s' (by omega) hI'
    exact ⟨r1, r2, loop_next' a c, loop_next' b d, hp⟩
   ·exact h
 exact key n 0 s (by omega) hI
structure QI (i : Nat) (s : List Pos6 × Pos6 × List (KV 64 × Int)) : Prop where
 len : s.1.length = i
 inv : ∀ x ∈ s.1, InvP x
 last : InvP s.2.1
 may : board_May_m s.2.1.1 s.2.1.2.1 s.2.1.2.2.1 s.2.1.2.2.2.1 s.2.1.2.2.2.2.1 s.2.1.2.2.2.2.2 = some true
 seen : ∀ k : KV 64, mget 0 k s.2.2 = cntP k (s.1 ++ [s.2.1])
theorem last_get (l : List Pos6) (x : Pos6) (hl : l.length ≤ 1000) : w64 (((l ++ [x]).length : Int) - 1) = (l.length : Int) ∧ getd zP65 (l ++ [x]) (l.length : Int) = x := by
 constructor
 ·rw [List.length_append, w64_of (by simp; omega)]
  simp
 ·exact getd_some (by simp)
theorem times_p (all : List Pos6) (x : Pos6) (hl : all.length ≤ 1000) (ha : ∀ y ∈ all, InvP y) (hx : InvP x) : loop (rf_PlayMoves_L2 (all ++ [x])) (0, 0) = some (cntP (keyP x) (all ++ [x])) := by
 have hlg := last_get all x hl
 have key := count_loop (step := rf_PlayMoves_L2 (all ++ [x])) (fun (k : Int) (i : Nat) => (k, (i : Int)))
  (fun n k => k = cntP (keyP x) ((all ++ [x]).take n)) (fun r => r = cntP (keyP x) (all ++ [x])) (all ++ [x]).length 0 rfl (by
   rintro i k hi rfl
   left
   have hg : (all ++ [x])[i]? = some ((all ++ [x])[i]) := List.getElem?_eq_getElem hi
   have hinv : InvP (all ++ [x])[i] := by
    have := List.mem_of_getElem? hg
    rcases List.mem_append.1 this with h | h
    ·exact ha _ h
    ·rw [List.mem_singleton] at h; rw [h]; exact hx
   have hle : (all ++ [x]).length ≤ 1001 := by simp; omega
   simp only [rf_PlayMoves_L2]
   rw [if_pos (by simp at hi ⊢; omega)]
   unfold rf_PlayMoves_J6
   rw [asrt_pos (by omega), hlg.1, hlg.2, getd_some hg]
   generalize (all ++ [x])[i] = y at hg hinv
   obtain ⟨y1, y2, y3, y4, y5, y6⟩ := y
   obtain ⟨x1, x2, x3, x4, x5, x6⟩ := x
   simp only
   rw [stand_p hinv hx, Option.bind_some]
   unfold rf_PlayMoves_J7
   have hc := cntP_le (keyP (x1, x2, x3, x4, x5, x6)) ((all ++ [(x1, x2, x3, x4, x5, x6)]).take i)
   have hc0 := cntP_nn (keyP (x1, x2, x3, x4, x5, x6)) ((all ++ [(x1, x2, x3, x4, x5, x6)]).take i)
   rw [List.length_take] at hc
   have ht : cntP (keyP (x1, x2, x3, x4, x5, x6)) ((all ++ [(x1, x2, x3, x4, x5, x6)]).take (i + 1)) = cntP (keyP (x1, x2, x3, x4, x5, x6)) ((all ++ [(x1, x2, x3, x4, x5, x6)]).take i) + if keyP (y1, y2, y3, y4, y5, y6) = keyP (x1, x2, x3, x4, x5, x6) then 1 else 0 := by
    rw [List.take_add_one, hg]
    exact cntP_app _ _ _
   by_cases hk : keyP (y1, y2, y3, y4, y5, y6) = keyP (x1, x2, x3, x4, x5, x6)
   ·rw [if_pos (decide_eq_true hk)]
    refine ⟨_, by rw [w64_succ (by omega), w64_of (x := cntP _ _ + 1) (by omega)]; rfl, ?_⟩
    rw [ht, if_pos hk]
   ·rw [if_neg (by rw [decide_eq_true_eq]; exact hk)]
    refine ⟨_, by rw [w64_succ (by omega)]; rfl, ?_⟩
    rw [ht, if_neg hk, Int.add_zero]) (by
   rintro k rfl
   simp only [rf_PlayMoves_L2]
   rw [if_neg (by simp)]
   exact ⟨_, rfl, by rw [List.take_length]⟩)
 obtain ⟨r, hr, rfl⟩ := key
 exact hr
def PEnd (r1 : List Int × Int × Int × Int × Int × Int × Int × Int × List (KV 64 × Int)) (r2 : List Pos6 × Int) : Prop :=
 ∃ (all : List Pos6) (x : Pos6) (sn : List (KV 64 × Int)) (er : Int), r1 = (x.1, x.2.1, x.2.2.1, x.2.2.2.1, x.2.2.2.2.1, x.2.2.2.2.2, (all.length : Int), er, sn) ∧ r2 = (all ++ [x], er) ∧ all.length ≤ 200 ∧ (∀ y ∈ all, InvP y) ∧ InvP x ∧ ∀ k : KV 64, mget 0 k sn = cntP k (all ++ [x])
theorem end_both {r1 : List Int × Int × Int × Int × Int × Int × Int × Int × List (KV 64 × Int)} {r2 : List Pos6 × Int} (h : PEnd r1 r2) : ∃ X, moves_Play_K1 r1 = some X ∧ rf_PlayMoves_K1 r2 = some X ∧ X.1.length = 64 := by
 obtain ⟨all, x, sn, er, rfl, rfl, hl, ha, hx, hs⟩ := h
 have hlg := last_get all x (by omega)
 have ht := times_p all x (by omega) ha hx
 unfold rf_PlayMoves_K1 rf_PlayMoves_J1
 simp only
 rw [hlg.1, asrt_pos (by simp; omega), ht, Option.bind_some]
 unfold rf_PlayMoves_K2 rf_PlayMoves_J5
 simp only
 rw [hlg.1, hlg.2]
 obtain ⟨x1, x2, x3, x4, x5, x6⟩ := x
 unfold moves_Play_K1 moves_Play_J2 moves_Play_J6
 simp only
 rw [keyOf_p hx, Option.bind_some]
 simp only
 have := hs (keyP (x1, x2, x3, x4, x5, x6))
 unfold keyP at this ht ⊢
 simp only at this ⊢
 rw [this]
 exact ⟨_, rfl, rfl, hx.len⟩
theorem play_both {p : List Int} {t c e h f : Int} (I : Inv p t c e h f) (hm : board_May_m p t c e h f = some true) {l : List Mv} (hl : l.length ≤ 200) : ∃ X, moves_Play_J1 p t c e h f l = some X ∧ rf_PlayMoves_m p t c e h f l = some X ∧ X.1.length = 64 := by
 have hp : p.length = 64 := I.len
 unfold moves_Play_J1 rf_PlayMoves_m slices_Clone_m slices_Clone_J1
 rw [asrt_pos (by unfold bigN; omega), List.nil_append, chessOf_any (by omega), keyOf_p I]
 simp only [Option.bind_some]
 have key := both_loopE (step1 := moves_Play_L1 l) (step2 := rf_PlayMoves_L1 l)
  (fun (s : List Pos6 × Pos6 × List (KV 64 × Int)) (i : Nat) => (s.2.1.1, s.2.1.2.1, s.2.1.2.2.1, s.2.1.2.2.2.1, s.2.1.2.2.2.2.1, s.2.1.2.2.2.2.2, (i : Int), s.2.2, (i : Int)))
  (fun s i => (s.1 ++ [s.2.1], 0, (i : Int))) QI PEnd l.length ([], (p, t, c, e, h, f), mput (keyP (p, t, c, e, h, f)) 1 []) ⟨rfl, fun _ hx => by simp at hx, I, hm, fun k => by
   simp only
   rw [mget_mput, List.nil_append]
   have := cntP_app k [] (p, t, c, e, h, f)
   rw [List.nil_append] at this
   rw [this]
   by_cases hk : keyP (p, t, c, e, h, f) = k
   ·rw [if_pos hk.symm, if_pos hk]; rfl
   ·rw [if_neg (Ne.symm hk), if_neg hk]; rfl⟩ (by
  rintro i ⟨all, ⟨x1, x2, x3, x4, x5, x6⟩, sn⟩ hi hQ
  obtain ⟨h1, h2, h3, h4, h5⟩ := hQ
  simp only at h1 h2 h3 h4 h5
  have J : Inv x1 x2 x3 x4 x5 x6 := h3
  have hlg := last_get all (x1, x2, x3, x4, x5, x6) (by omega)
  have hg : l[i]? = some (l[i]) := List.getElem?_eq_getElem hi
  have hrl := refL_len J
  have e1 : moves_Play_L1 l (x1, x2, x3, x4, x5, x6, (i : Int), sn, (i : Int)) = moves_Play_J3 l x1 x2 x3 x4 x5 x6 i sn i := by
   simp only [moves_Play_L1]
   rw [if_pos (by simp; omega)]
  have e2 : rf_PlayMoves_L1 l (all ++ [(x1, x2, x3, x4, x5, x6)], 0, (i : Int)) = rf_PlayMoves_J2 l (all ++ [(x1, x2, x3, x4, x5, x6)]) 0 i := by
   simp only [rf_PlayMoves_L1]
   rw [if_pos (by simp; omega)]
  unfold moves_Play_J3 at e1
  unfold rf_PlayMoves_J2 at e2
  rw [asrt_pos (by omega), getd_some hg] at e1
  rw [hlg.1, hlg.2, asrt_pos (by simp; omega), asrt_pos (by omega), getd_some hg] at e2
  simp only at e2
  generalize l[i] = m at hg e1 e2
  obtain ⟨m1, m2, m3⟩ := m
  simp only at e1 e2
  rw [do_no J h4] at e1
  rw [all_p J, Option.bind_some, moveAt_p (by omega), Option.bind_some] at e2
  by_cases hq : 0 ≤ midx (refL x1 x2 x3 x4) (m1, m2, m3)
  ·left
   rw [if_pos hq] at e1
   obtain ⟨q, t', c', e', h', f', a1, a2, I', may'⟩ := step_q J (midx_mem hq)
   simp only at a1 a2
   unfold moves_Do_J1 at e1
   rw [a1, Option.bind_some, Option.bind_some] at e1
   simp only at e1
   rw [if_neg (show ¬ ((0 : Int) != 0) = true by decide)] at e1
   unfold moves_Play_J5 moves_Play_J4 at e1
   simp only at e1
   rw [keyOf_p I', Option.bind_some, w64_succ (by omega)] at e1
   simp only at e1
   unfold rf_PlayMoves_J4 at e2
   rw [decide_eq_false (by omega), if_neg (by decide), asrt_pos (by omega), hlg.1, hlg.2, getd_some hg] at e2
   simp only at e2
   rw [a2, Option.bind_some, asrt_pos (by unfold bigK; simp; omega)] at e2
   unfold rf_PlayMoves_J3 at e2
   rw [w64_succ (by omega)] at e2
   have hk := h5 (keyP (q, t', c', e', h', f'))
   have hc := cntP_le (keyP (q, t', c', e', h', f')) (all ++ [(x1, x2, x3, x4, x5, x6)])
   have hc0 := cntP_nn (keyP (q, t', c', e', h', f')) (all ++ [(x1, x2, x3, x4, x5, x6)])
   rw [List.length_append] at hc
   have ek : ((mkV 64 q, t', c', ovE q e' (refL q t' c' e')) : KV 64) = keyP (q, t', c', e', h', f') := rfl
   rw [ek, hk, w64_of (by simp at hc; omega)] at e1
   refine ⟨(all ++ [(x1, x2, x3, x4, x5, x6)], (q, t', c', e', h', f'), mput (keyP (q, t', c', e', h', f')) (cntP (keyP (q, t', c', e', h', f')) (all ++ [(x1, x2, x3, x4, x5, x6)]) + 1) sn), e1, e2, ⟨by simp [h1], fun y hy => ?_, I', may', fun k => ?_⟩⟩
   ·simp only [List.mem_append, List.mem_singleton] at hy
    rcases hy with hy | rfl
    ·exact h2 y hy
    ·exact J
   ·simp only
    have hcn := cntP_app k (all ++ [(x1, x2, x3, x4, x5, x6)]) (q, t', c', e', h', f')
    rw [mget_mput, hcn]
    by_cases hk2 : k = keyP (q, t', c', e', h', f')
    ·subst hk2
     rw [if_pos rfl, if_pos rfl]
    ·rw [if_neg hk2, if_neg (Ne.symm hk2), h5, Int.add_zero]
  ·right
   rw [if_neg hq, Option.bind_some] at e1
   simp only at e1
   rw [if_pos (by decide)] at e1
   unfold rf_PlayMoves_J4 at e2
   rw [decide_eq_true (by omega), if_pos rfl] at e2
   unfold rf_PlayMoves_J3 at e2
   rw [w64_succ (by omega)] at e2
   have e3 : rf_PlayMoves_L1 l (all ++ [(x1, x2, x3, x4, x5, x6)], 8, (i : Int) + 1) = some (.done (all ++ [(x1, x2, x3, x4, x5, x6)], 8)) := by
    simp only [rf_PlayMoves_L1]
    rw [if_neg (by simp)]
   refine ⟨_, _, loop_done e1, loop_next' e2 (loop_done e3), all, (x1, x2, x3, x4, x5, x6), sn, 8, ?_, rfl, by omega, h2, J, h5⟩
   simp only
   rw [h1]) (by
  rintro ⟨all, ⟨x1, x2, x3, x4, x5, x6⟩, sn⟩ hQ
  obtain ⟨h1, h2, h3, h4, h5⟩ := hQ
  simp only at h1 h2 h3 h4 h5
  refine ⟨_, _, ?_, ?_, all, (x1, x2, x3, x4, x5, x6), sn, 0, rfl, rfl, by omega, h2, h3, h5⟩
  ·simp only [moves_Play_L1]
   rw [if_neg (by simp), h1]
  ·simp only [rf_PlayMoves_L1]
   rw [if_neg (by simp)])
 obtain ⟨r1, r2, k1, k2, hE⟩ := key
 obtain ⟨X, x1, x2, x3⟩ := end_both hE
 simp only [Int.natCast_zero, List.nil_append] at k1 k2
 refine ⟨X, ?_, ?_, x3⟩
 ·have ek : ((mkV 64 p, t, c, ovE p e (refL p t c e)) : KV 64) = keyP (p, t, c, e, h, f) := rfl
  rw [ek]
  rw [show loop (moves_Play_L1 l) (p, t, c, e, h, f, 0, mput (keyP (p, t, c, e, h, f)) 1 [], 0) = some r1 from k1]
  exact x1
 ·rw [show loop (rf_PlayMoves_L1 l) ([(p, t, c, e, h, f)], 0, 0) = some r2 from k2]
  exact x2
theorem true_MovesPlays (p : List Int) (p2 p3 p4 p5 p6 : Int) (l : List Mv) (hl : p.length ≤ 17592186043904) (hin : ∀ y ∈ p, inI y) (_h2 : inI p2) (_h3 : inI p3) (_h4 : inI p4) (_h5 : inI p5) (_h6 : inI p6) (hl2 : l.length ≤ 5864062014805) (_hl3 : ∀ y ∈ l, inI y.1 ∧ inI y.2.1 ∧ inI y.2.2) : lw_MovesPlays_m p p2 p3 p4 p5 p6 l = some true := by
 unfold lw_MovesPlays_m lw_list_m
 rw [chessOf_any hl, asrt_pos (by unfold bigT; omega), List.nil_append]
 simp only [Option.bind_some]
 obtain ⟨b, q1, q2, _⟩ := may_both hin p2 p3 p4 p5 p6
 unfold moves_Play_m
 rw [q1, q2]
 simp only [Option.bind_some]
 cases b with
 | false => rfl
 | true =>
  have I := may_inv hin q1
  simp only [Bool.not_true, Bool.false_eq_true, if_false]
  by_cases h2 : (200 : Int) < (l.length : Int)
  ·rw [if_pos (decide_eq_true h2), Option.bind_some, if_pos (decide_eq_true h2)]
   rfl
  ·rw [if_neg (by rw [decide_eq_true_eq]; exact h2)]
   obtain ⟨X, x1, x2, x3⟩ := play_both I q1 (l := l) (by omega)
   rw [x1, Option.bind_some, if_neg (by rw [decide_eq_true_eq]; exact h2)]
   unfold lw_MovesPlays_J1
   rw [if_neg (by decide)]
   unfold lw_MovesPlays_J2
   rw [x2, Option.bind_some]
   simp only [beq_self_eq_true, Bool.and_self, if_true]
   unfold rf_SameChess_m
   rw [sameInts_eq (by omega), decide_eq_true rfl]
   simp
end Go.Proofs.Ytkpkkdpfcbnfdaa
