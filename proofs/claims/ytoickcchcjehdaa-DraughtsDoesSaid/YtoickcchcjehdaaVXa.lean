/-
  DraughtsDoes: a way gone, by the program and by the document.
-/
import Derived.Test.YtoickcchcjehdaaNDD
import Derived.Test.YtoickcchcjehdaaVWf
namespace Go.Proofs.Ytoickcchcjehdaa
open Go Go.GL

def hit (P Q d : Nat) : Bool := nx P d != 0 && nx2 P d == Q
/-- The place jumped over; 0: none. -/
def midS (P Q : Nat) : Nat := if hit P Q 0 then nx P 0 else if hit P Q 1 then nx P 1 else if hit P Q 2 then nx P 2 else if hit P Q 3 then nx P 3 else 0
def parB (P Q : Nat) : Bool := ((Int.tmod (w64 (dX P + dX Q)) 2) == 0) && ((Int.tmod (w64 (dY P + dY Q)) 2) == 0)
theorem mid_t1 : ∀ P : Nat, P < 33 → ∀ d : Nat, d < 4 → 1 ≤ P → nx2 P d = 0 ∨ (parB P (nx2 P d) = true ∧ gameroomref_darkAt_m (w64 (Int.tdiv (w64 (dX P + dX (nx2 P d))) 2)) (w64 (Int.tdiv (w64 (dY P + dY (nx2 P d))) 2)) = some ((midS P (nx2 P d) : Nat) : Int) ∧ midS P (nx2 P d) ≠ 0 ∧ midS P (nx2 P d) < 33) := by decide +kernel
theorem mid_t2 : ∀ P : Nat, P < 33 → ∀ d : Nat, d < 4 → 1 ≤ P → nx P d = 0 ∨ (parB P (nx P d) = false ∧ midS P (nx P d) = 0) := by decide +kernel
theorem mid_t : ∀ P : Nat, P < 33 → ∀ d : Nat, d < 4 → 1 ≤ P →
    (nx2 P d ≠ 0 → (((Int.tmod (w64 (dX P + dX (nx2 P d))) 2) == 0) && ((Int.tmod (w64 (dY P + dY (nx2 P d))) 2) == 0)) = true ∧ gameroomref_darkAt_m (w64 (Int.tdiv (w64 (dX P + dX (nx2 P d))) 2)) (w64 (Int.tdiv (w64 (dY P + dY (nx2 P d))) 2)) = some ((midS P (nx2 P d) : Nat) : Int) ∧ midS P (nx2 P d) ≠ 0 ∧ midS P (nx2 P d) < 33) ∧
    (nx P d ≠ 0 → (((Int.tmod (w64 (dX P + dX (nx P d))) 2) == 0) && ((Int.tmod (w64 (dY P + dY (nx P d))) 2) == 0)) = false ∧ midS P (nx P d) = 0) :=
  fun P h d hd h1 => ⟨fun e => (mid_t1 P h d hd h1).resolve_left e, fun e => (mid_t2 P h d hd h1).resolve_left e⟩

theorem middle_p {P Q : Nat} (h1 : 1 ≤ P) (h2 : P < 33) : draughts_middle_m (P : Int) (Q : Int) = some ((midS P Q : Nat) : Int) := by
  have st : ∀ d : Nat, d < 4 → draughts_middle_L1 (P : Int) (Q : Int) (d : Int) = if hit P Q d then some (.done (.ret ((nx P d : Nat) : Int))) else some (.next ((d + 1 : Nat) : Int)) := fun d hd => by
    obtain ⟨m1, m2⟩ := nx_m P h2 d hd h1
    unfold draughts_middle_L1 draughts_middle_J2 draughts_middle_J3
    dsimp only
    rw [if_pos (by rw [decide_eq_true_eq]; omega), m1, Option.bind_some]
    unfold hit nx2
    by_cases z : nx P d = 0
    · rw [z, if_neg (by simp), Option.bind_some, if_neg (by simp), if_neg (by simp), w64_of (by omega)]
      rfl
    · obtain ⟨k1, k2⟩ := nx_m (nx P d) m2 d hd (by omega)
      rw [if_pos (by simp; omega), k1, Option.bind_some, if_neg z]
      by_cases e : nx (nx P d) d = Q
      · rw [if_pos (by simp [e]; omega), if_pos (by simp [e]; exact z)]
      · rw [if_neg (by simp; intro _ h; omega), if_neg (by simp [e]), w64_of (by omega)]
        rfl
  have s0 := st 0 (by omega)
  have s1 := st 1 (by omega)
  have s2 := st 2 (by omega)
  have s3 := st 3 (by omega)
  have s4 : draughts_middle_L1 (P : Int) (Q : Int) 4 = some (.done (.go ())) := rfl
  unfold draughts_middle_m midS
  cases c0 : hit P Q 0 with
  | true =>
    rw [c0, if_pos rfl] at s0
    rw [show (0 : Int) = ((0 : Nat) : Int) from rfl, loop_done s0]; rfl
  | false =>
    rw [c0, if_neg (by decide)] at s0
    cases c1 : hit P Q 1 with
    | true =>
      rw [c1, if_pos rfl] at s1
      rw [show (0 : Int) = ((0 : Nat) : Int) from rfl, loop_next s0 (loop_done s1) rfl]; rfl
    | false =>
      rw [c1, if_neg (by decide)] at s1
      cases c2 : hit P Q 2 with
      | true =>
        rw [c2, if_pos rfl] at s2
        rw [show (0 : Int) = ((0 : Nat) : Int) from rfl, loop_next s0 (loop_next s1 (loop_done s2) rfl) rfl]; rfl
      | false =>
        rw [c2, if_neg (by decide)] at s2
        cases c3 : hit P Q 3 with
        | true =>
          rw [c3, if_pos rfl] at s3
          rw [show (0 : Int) = ((0 : Nat) : Int) from rfl, loop_next s0 (loop_next s1 (loop_next s2 (loop_done s3) rfl) rfl) rfl]; rfl
        | false =>
          rw [c3, if_neg (by decide)] at s3
          rw [show (0 : Int) = ((0 : Nat) : Int) from rfl, loop_next s0 (loop_next s1 (loop_next s2 (loop_next s3 (loop_done s4) rfl) rfl) rfl) rfl]; rfl

/-- A way of steps or jumps. -/
def pairOk (P Q : Nat) : Prop := (1 ≤ P ∧ P < 33 ∧ 1 ≤ Q ∧ Q < 33) ∧ ∃ d, d < 4 ∧ (Q = nx P d ∨ Q = nx2 P d)
structure WayOk (w : List Int) : Prop where
  two : 2 ≤ w.length
  few : w.length ≤ 14
  prs : ∀ i, i + 1 < w.length → ∃ P Q : Nat, geti w (i : Int) = (P : Int) ∧ geti w ((i + 1 : Nat) : Int) = (Q : Int) ∧ pairOk P Q
theorem pair_mid {P Q : Nat} (h : pairOk P Q) : midS P Q < 33 := by
  obtain ⟨⟨h1, h2, h3, h4⟩, d, hd, e | e⟩ := h
  · rw [e, ((mid_t P h2 d hd h1).2 (by omega)).2]; omega
  · rw [e]; exact ((mid_t P h2 d hd h1).1 (by omega)).2.2.2

/-- The places jumped over are cleared. -/
def clr (w : List Int) (b : List Int) : Nat → List Int
  | 0 => b
  | i + 1 => let m := midS (geti w (i : Int)).toNat (geti w ((i + 1 : Nat) : Int)).toNat
             if m = 0 then clr w b i else (clr w b i).set m 0
theorem clr_len (w b : List Int) : ∀ i, (clr w b i).length = b.length
  | 0 => rfl
  | i + 1 => by
    unfold clr
    dsimp only
    split
    · exact clr_len w b i
    · rw [List.length_set]; exact clr_len w b i
def lastOf (w : List Int) : Int := geti w ((w.length - 1 : Nat) : Int)
def rowS (s x : Int) : Bool := if 0 < s then decide (x ≤ 4) else decide (29 ≤ x)
/-- The board behind a way. -/
def doS (b : List Int) (s : Int) (w : List Int) : List Int :=
  (clr w (b.set (geti w 0).toNat 0) (w.length - 1)).set (lastOf w).toNat (if rowS s (lastOf w) then 2 * s else geti b (geti w 0))

section
variable {b : List Int} {s : Int} (hb : b.length = 33) (hs : s = 1 ∨ s = -1) {w : List Int} (hw : WayOk w)
include hb hw
theorem way_at {i : Nat} (hi : i < w.length) : ∃ P : Nat, 1 ≤ P ∧ P < 33 ∧ geti w (i : Int) = (P : Int) := by
  have _ := hb
  by_cases h : i + 1 < w.length
  · obtain ⟨P, Q, e1, _, p, _⟩ := hw.prs i h
    exact ⟨P, by omega, by omega, e1⟩
  · have h2 := hw.two
    obtain ⟨P, Q, _, e2, p, _⟩ := hw.prs (i - 1) (by omega)
    rw [show i - 1 + 1 = i by omega] at e2
    exact ⟨Q, by omega, by omega, e2⟩
theorem loop_do {step : List Int × Int → Option (St (List Int × Int) (List Int))} (b0 : List Int)
    (hstep : ∀ (i : Nat) (cur : List Int), i + 1 < w.length → cur.length = 33 → step (cur, ((i + 1 : Nat) : Int)) = some (.next ((if midS (geti w (i : Int)).toNat (geti w ((i + 1 : Nat) : Int)).toNat = 0 then cur else cur.set (midS (geti w (i : Int)).toNat (geti w ((i + 1 : Nat) : Int)).toNat) 0), ((i + 1 + 1 : Nat) : Int)))) (hb0 : b0.length = 33)
    (he : ∀ cur, step (cur, (w.length : Int)) = some (.done cur)) : loop step (b0, 1) = some (clr w b0 (w.length - 1)) := by
  have _ := hb
  have h2 := hw.two
  refine loop_from (s0 := (b0, (1 : Int))) (fun i => (clr w b0 i, ((i + 1 : Nat) : Int))) (w.length - 1) rfl (fun i hi => ?_) ?_
  · rw [hstep i _ (by omega) (by rw [clr_len, hb0])]
    rfl
  · rw [show w.length - 1 + 1 = w.length by omega]
    exact he _
include hs
theorem do_p : draughts_play_do_m b s w = some (doS b s w) ∧ ∀ o, draughts_play_do_2_m b s o w = some (doS b s w) := by
  have h2 := hw.two
  have h14 := hw.few
  obtain ⟨P0, p1, p2, e0⟩ := way_at hb hw (i := 0) (by omega)
  obtain ⟨PL, q1, q2, eL⟩ := way_at hb hw (i := w.length - 1) (by omega)
  rw [show ((0 : Nat) : Int) = 0 from rfl] at e0
  have elast : w64 ((w.length : Int) - 1) = ((w.length - 1 : Nat) : Int) := by rw [w64_of (by omega)]; omega
  have hmid : ∀ i, i + 1 < w.length → draughts_middle_m (geti w (i : Int)) (geti w ((i + 1 : Nat) : Int)) = some ((midS (geti w (i : Int)).toNat (geti w ((i + 1 : Nat) : Int)).toNat : Nat) : Int) ∧ midS (geti w (i : Int)).toNat (geti w ((i + 1 : Nat) : Int)).toNat < 33 := fun i hi => by
    obtain ⟨P, Q, a1, a2, hpq⟩ := hw.prs i hi
    rw [a1, a2, Int.toNat_natCast, Int.toNat_natCast]
    exact ⟨middle_p hpq.1.1 hpq.1.2.1, pair_mid hpq⟩
  have hrow : ∀ x : Int, (if 0 < s then some (decide (x ≤ 4)) else some (decide ((29 : Int) ≤ x)) : Option Bool) = some (rowS s x) := fun x => by
    unfold rowS
    split <;> rfl
  have w2 : w64 (2 * s) = 2 * s := by rcases hs with e | e <;> rw [e] <;> rfl
  constructor
  · unfold draughts_play_do_m
    rw [elast, asrt_pos (by omega), asrt_pos (by omega), e0, asrt_pos (by omega), asrt_pos (by omega), asrt_pos (by omega), Int.toNat_natCast]
    rw [loop_do hb hw (b.set P0 0) (fun i cur hi hc => ?_) (by rw [List.length_set, hb]) (fun cur => ?_), Option.bind_some]
    · unfold draughts_play_do_K1 draughts_play_do_J2 draughts_play_last_2_m draughts_play_last_2_J1
      dsimp only
      rw [elast, eL]
      have := hrow (PL : Int)
      simp only [decide_eq_true_eq]
      rw [this, Option.bind_some]
      unfold doS lastOf draughts_play_do_J5 draughts_play_do_J1
      rw [elast, eL, e0, w2, Int.toNat_natCast, Int.toNat_natCast]
      cases rowS s (PL : Int) with
      | true => rw [if_pos rfl, asrt_pos (by omega)]; rfl
      | false => rw [if_neg (by decide), asrt_pos (by omega)]; rfl
    · obtain ⟨m1, m2⟩ := hmid i hi
      unfold draughts_play_do_L1 draughts_play_do_J3 draughts_play_do_J4
      dsimp only
      have e1 : w64 (((i + 1 : Nat) : Int) - 1) = (i : Int) := by rw [w64_of (by omega)]; omega
      rw [if_pos (by rw [decide_eq_true_eq]; omega), e1, asrt_pos (by omega), asrt_pos (by omega), m1, Option.bind_some, w64_of (by omega)]
      generalize midS (geti w (i : Int)).toNat (geti w ((i + 1 : Nat) : Int)).toNat = m at *
      by_cases z : m = 0
      · rw [if_neg (by simp; omega), if_pos z]
        rfl
      · rw [if_pos (by simp; omega), asrt_pos (by omega), if_neg z, Int.toNat_natCast]
        rfl
    · unfold draughts_play_do_L1
      dsimp only
      rw [if_neg (by simp)]
  · intro o
    unfold draughts_play_do_2_m
    rw [elast, asrt_pos (by omega), asrt_pos (by omega), e0, asrt_pos (by omega), asrt_pos (by omega), asrt_pos (by omega), Int.toNat_natCast]
    rw [loop_do hb hw (b.set P0 0) (fun i cur hi hc => ?_) (by rw [List.length_set, hb]) (fun cur => ?_), Option.bind_some]
    · unfold draughts_play_do_2_K1 draughts_play_do_2_J2 draughts_play_last_m draughts_play_last_J1
      dsimp only
      rw [elast, eL]
      have := hrow (PL : Int)
      simp only [decide_eq_true_eq]
      rw [this, Option.bind_some]
      unfold doS lastOf draughts_play_do_2_J5 draughts_play_do_2_J1
      rw [elast, eL, e0, w2, Int.toNat_natCast, Int.toNat_natCast]
      cases rowS s (PL : Int) with
      | true => rw [if_pos rfl, asrt_pos (by omega)]; rfl
      | false => rw [if_neg (by decide), asrt_pos (by omega)]; rfl
    · obtain ⟨m1, m2⟩ := hmid i hi
      unfold draughts_play_do_2_L1 draughts_play_do_2_J3 draughts_play_do_2_J4
      dsimp only
      have e1 : w64 (((i + 1 : Nat) : Int) - 1) = (i : Int) := by rw [w64_of (by omega)]; omega
      rw [if_pos (by rw [decide_eq_true_eq]; omega), e1, asrt_pos (by omega), asrt_pos (by omega), m1, Option.bind_some, w64_of (by omega)]
      generalize midS (geti w (i : Int)).toNat (geti w ((i + 1 : Nat) : Int)).toNat = m at *
      by_cases z : m = 0
      · rw [if_neg (by simp; omega), if_pos z]
        rfl
      · rw [if_pos (by simp; omega), asrt_pos (by omega), if_neg z, Int.toNat_natCast]
        rfl
    · unfold draughts_play_do_2_L1
      dsimp only
      rw [if_neg (by simp)]
omit hs in
theorem do_d {tn : Int} (htn : (tn = 1 ∧ s = 1) ∨ (tn = 2 ∧ s = -1)) (hpc : geti b (geti w 0) = s ∨ geti b (geti w 0) = 2 * s) : gameroomref_DraughtsDo_m b tn w = some (doS b s w, 3 - tn) := by
  have h2 := hw.two
  have h14 := hw.few
  obtain ⟨P0, p1, p2, e0⟩ := way_at hb hw (i := 0) (by omega)
  obtain ⟨PL, q1, q2, eL⟩ := way_at hb hw (i := w.length - 1) (by omega)
  rw [show ((0 : Nat) : Int) = 0 from rfl] at e0
  have elast : w64 ((w.length : Int) - 1) = ((w.length - 1 : Nat) : Int) := by rw [w64_of (by omega)]; omega
  unfold gameroomref_DraughtsDo_m
  rw [of_p tn (by omega), Option.bind_some, asrt_pos (by omega), e0, asrt_pos (by omega), asrt_pos (by omega), asrt_pos (by show 0 ≤ (P0 : Int) ∧ (P0 : Int) < (b.length : Int); omega), Int.toNat_natCast]
  rw [loop_do hb hw (b.set P0 0) (fun i cur hi hc => ?_) (by rw [List.length_set, hb]) (fun cur => ?_), Option.bind_some]
  · unfold gameroomref_DraughtsDo_K1 gameroomref_DraughtsDo_J1 gameroomref_DraughtsDo_J4 gameroomref_DraughtsDo_J5
    dsimp only
    rw [elast, eL, e0, asrt_pos (by omega)]
    unfold doS lastOf
    rw [eL, e0, Int.toNat_natCast, Int.toNat_natCast]
    rw [e0] at hpc
    have e3 : w64 (3 - tn) = 3 - tn := w64_of (by omega)
    rw [e3]
    generalize geti b (P0 : Int) = x at *
    unfold rowS
    rcases htn with ⟨rfl, rfl⟩ | ⟨rfl, rfl⟩ <;> rcases hpc with rfl | rfl
    · by_cases h4 : (PL : Int) ≤ 4
      · rw [if_pos (by simpa using h4), if_neg (by simp), asrt_pos (by omega)]; simp [h4]
      · rw [if_neg (by simpa using h4), if_neg (by simp), asrt_pos (by omega)]; simp [h4]
    · rw [if_neg (by simp), if_neg (by simp), asrt_pos (by omega)]
      by_cases h4 : (PL : Int) ≤ 4 <;> simp [h4]
    · by_cases h4 : (29 : Int) ≤ (PL : Int)
      · rw [if_neg (by simp), if_pos (by simpa using h4), asrt_pos (by omega)]; simp [h4]
      · rw [if_neg (by simp), if_neg (by simpa using h4), asrt_pos (by omega)]; simp [h4]
    · rw [if_neg (by simp), if_neg (by simp), asrt_pos (by omega)]
      by_cases h4 : (29 : Int) ≤ (PL : Int) <;> simp [h4]
  · obtain ⟨P, Q, a1, a2, ⟨⟨g1, g2, g3, g4⟩, d, hd, hq⟩⟩ := hw.prs i hi
    obtain ⟨x1, y1⟩ := dXY_m P g2 g1
    obtain ⟨x2, y2⟩ := dXY_m Q g4 g3
    obtain ⟨t1, t2⟩ := mid_t P g2 d hd g1
    unfold gameroomref_DraughtsDo_L1 gameroomref_DraughtsDo_J2 gameroomref_DraughtsDo_J3
    dsimp only
    have e1 : w64 (((i + 1 : Nat) : Int) - 1) = (i : Int) := by rw [w64_of (by omega)]; omega
    rw [if_pos (by rw [decide_eq_true_eq]; omega), e1, asrt_pos (by omega), a1, a2, x1, Option.bind_some, asrt_pos (by omega), x2, Option.bind_some, asrt_pos (by omega), y1, Option.bind_some, asrt_pos (by omega), y2, Option.bind_some, Int.toNat_natCast, Int.toNat_natCast, w64_of (x := ((i + 1 : Nat) : Int) + 1) (by omega)]
    rcases hq with hq | hq
    · obtain ⟨k1, k2⟩ := t2 (by omega)
      rw [← hq] at k1 k2
      rw [k1, if_neg (by decide), k2, if_pos rfl]
      rfl
    · obtain ⟨k1, k2, k3, k4⟩ := t1 (by omega)
      rw [← hq] at k1 k2 k3 k4
      rw [k1, if_pos rfl, k2, Option.bind_some, asrt_pos (by show 0 ≤ ((midS P Q : Nat) : Int) ∧ ((midS P Q : Nat) : Int) < (b.length : Int); omega), if_neg k3, Int.toNat_natCast]
      rfl
  · unfold gameroomref_DraughtsDo_L1
    dsimp only
    rw [if_neg (by simp)]
end
end Go.Proofs.Ytoickcchcjehdaa
