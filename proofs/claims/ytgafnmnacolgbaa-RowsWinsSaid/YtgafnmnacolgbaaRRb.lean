/-
  Rows on a board: who has one, and which places are in one.
-/
import Derived.Test.YtgafnmnacolgbaaRRa
namespace Go.Proofs.Ytgafnmnacolgbaa
open Go Go.GL

def DX (d : Int) : Int := geti [1, 0, 1, 1] d
def DY (d : Int) : Int := geti [0, 1, 1, -1] d
theorem dxy {d : Int} (h : 0 ≤ d ∧ d < 4) : (DX d = -1 ∨ DX d = 0 ∨ DX d = 1) ∧ (DY d = -1 ∨ DY d = 0 ∨ DY d = 1) := by
  obtain rfl | rfl | rfl | rfl : d = 0 ∨ d = 1 ∨ d = 2 ∨ d = 3 := by omega
  all_goals decide

section
variable {W H k : Int} {c : List Int}

noncomputable def rv (W H : Int) (c : List Int) (k y x d : Int) : Int := rowV W H c k x y (DX d) (DY d)
def plc (W y x d i : Int) : Int := (y + DY d * i) * W + (x + DX d * i)

structure Desc (W H : Int) (c : List Int) (k : Int) (S : Int → Int → Int → Prop) (st : List Bool × Bool × Bool) : Prop where
  len : st.1.length = c.length
  inn : ∀ p : Nat, p < c.length → (getb st.1 p = true ↔ ∃ y x d : Int, ∃ i : Nat, S y x d ∧ (i : Int) < k ∧ 0 < rv W H c k y x d ∧ (p : Int) = plc W y x d i)
  one : st.2.1 = true ↔ ∃ y x d : Int, S y x d ∧ rv W H c k y x d = 1
  two : st.2.2 = true ↔ ∃ y x d : Int, S y x d ∧ rv W H c k y x d = 2

theorem Desc.congr {S T : Int → Int → Int → Prop} {st : List Bool × Bool × Bool} (h : Desc W H c k S st) (e : ∀ y x d, S y x d ↔ T y x d) : Desc W H c k T st := by
  have : S = T := by
    funext y x d
    exact propext (e y x d)
  rw [← this]; exact h

theorem getb_set {l : List Bool} {i p : Nat} {v : Bool} (hi : i < l.length) : getb (l.set i v) (p : Int) = if p = i then v else getb l (p : Int) := by
  unfold getb
  rw [List.getD_eq_getElem?_getD, List.getD_eq_getElem?_getD, Int.toNat_natCast, List.getElem?_set]
  by_cases e : i = p
  · subst e; simp [hi]
  · rw [if_neg e, if_neg (by omega)]

theorem rv_pos (_hk : 1 ≤ k) {y x d : Int} (h : rv W H c k y x d ≠ 0) : LineAt W H c k x y (DX d) (DY d) (rv W H c k y x d) ∧ rv W H c k y x d = geti c (y * W + x) := by
  unfold rv rowV at h ⊢
  split
  · rename_i h2; exact ⟨h2, rfl⟩
  · rename_i h2
    rw [if_neg h2] at h
    exact absurd rfl h

theorem d_step (B : Bd W H c k) {S : Int → Int → Int → Prop} {y x d : Int} (hx : 0 ≤ x ∧ x < W) (hy : 0 ≤ y ∧ y < H) (hd : 0 ≤ d ∧ d < 4) {st : List Bool × Bool × Bool} (hD : Desc W H c k S st) :
    ∃ st', gameroomref_WonOf_J8 W H c k y x st.1 st.2.1 st.2.2 d = some (.next (st'.1, st'.2.1, st'.2.2, d + 1)) ∧ Desc W H c k (fun y' x' d' => S y' x' d' ∨ (y' = y ∧ x' = x ∧ d' = d)) st' := by
  have hW := B.w
  have hH := B.h
  have hk := B.k
  have hsm := B.small
  have hdd := dxy hd
  unfold gameroomref_WonOf_J8
  have e1 : gameroomref_rowFrom_m W H c x y (geti ([1, 0, 1, 1] : List Int) d) (geti ([0, 1, 1, (-1)] : List Int) d) k = some (rv W H c k y x d) := rowFrom_eq B hx hy hdd.1 hdd.2
  rw [e1]
  simp only [Option.bind_some]
  have key : ∃ r, loop (gameroomref_WonOf_L4 W c k y x st.2.1 st.2.2 d (rv W H c k y x d)) (st.1, 0) = some r ∧
      Desc W H c k (fun y' x' d' => S y' x' d' ∨ (y' = y ∧ x' = x ∧ d' = d)) r := by
    by_cases hr : 0 < rv W H c k y x d
    · have hl := (rv_pos hk.1 (show rv W H c k y x d ≠ 0 by omega)).1
      refine count_loop (step := gameroomref_WonOf_L4 W c k y x st.2.1 st.2.2 d (rv W H c k y x d)) (fun (b : List Bool) (i : Nat) => (b, (i : Int)))
        (fun n b => b.length = c.length ∧ ∀ p : Nat, p < c.length → (getb b p = true ↔ getb st.1 p = true ∨ ∃ i : Nat, i < n ∧ (p : Int) = plc W y x d i))
        (fun r => Desc W H c k (fun y' x' d' => S y' x' d' ∨ (y' = y ∧ x' = x ∧ d' = d)) r) k.toNat st.1 ⟨hD.len, fun p _ => by simp⟩ ?_ ?_
      · rintro i b hi ⟨hb1, hb2⟩
        have hli := hl i (by omega)
        have hix := B.idx (x := x + DX d * i) (y := y + DY d * i) ⟨hli.1, hli.2.1⟩ ⟨hli.2.2.1, hli.2.2.2.1⟩
        have hb1' := tri_bd (i := i) hdd.1 (by omega)
        have hb2' := tri_bd (i := i) hdd.2 (by omega)
        have hm := mul_bd (b := y + DY d * i) (W := W) (by omega) B.w
        have ec : w64 (w64 (w64 (w64 (y + w64 (DY d * (i : Int))) * W) + x) + w64 (DX d * (i : Int))) = plc W y x d i := by
          rw [w64_of (x := DX d * (i : Int)) (by omega), w64_of (x := DY d * (i : Int)) (by omega), w64_of (x := y + DY d * (i : Int)) (by omega), w64_of (x := (y + DY d * (i : Int)) * W) (by omega), w64_of (x := (y + DY d * (i : Int)) * W + x) (by omega), w64_of (by omega)]
          unfold plc; omega
        left
        refine ⟨b.set (plc W y x d i).toNat true, ?_, ?_, ?_⟩
        · simp only [gameroomref_WonOf_L4]
          rw [if_pos (by simp; omega)]
          unfold gameroomref_WonOf_J9 gameroomref_WonOf_J10
          change asrt (0 ≤ (w64 (w64 (w64 (w64 (y + w64 (DY d * (i : Int))) * W) + x) + w64 (DX d * (i : Int)))) ∧ (w64 (w64 (w64 (w64 (y + w64 (DY d * (i : Int))) * W) + x) + w64 (DX d * (i : Int)))) < (((Int.toNat (c.length : Int)) : Nat) : Int)) (some (St.next ((b.set (Int.toNat (w64 (w64 (w64 (w64 (y + w64 (DY d * (i : Int))) * W) + x) + w64 (DX d * (i : Int))))) true), (w64 ((i : Int) + 1))))) = _
          rw [ec, asrt_pos (by unfold plc; omega), w64_of (by omega)]
          simp
        · simpa using hb1
        · intro p hp
          rw [getb_set (by unfold plc; omega)]
          by_cases e : p = (plc W y x d i).toNat
          · rw [if_pos e]
            simp only [true_iff]
            right
            exact ⟨i, by omega, by rw [e]; unfold plc; omega⟩
          · rw [if_neg e, hb2 p hp]
            constructor
            · rintro (h | ⟨j, hj, h⟩)
              · exact Or.inl h
              · exact Or.inr ⟨j, by omega, h⟩
            · rintro (h | ⟨j, hj, h⟩)
              · exact Or.inl h
              · by_cases e2 : j = i
                · subst e2; omega
                · exact Or.inr ⟨j, by omega, h⟩
      · rintro b ⟨hb1, hb2⟩
        refine ⟨(b, st.2.1 || (rv W H c k y x d == 1), st.2.2 || (rv W H c k y x d == 2)), ?_, hb1, ?_, ?_, ?_⟩
        · simp only [gameroomref_WonOf_L4]
          rw [if_neg (by simp; omega)]
        · intro p hp
          rw [hb2 p hp, hD.inn p hp]
          constructor
          · rintro (⟨y', x', d', i, h1, h2, h3, h4⟩ | ⟨i, h1, h2⟩)
            · exact ⟨y', x', d', i, Or.inl h1, h2, h3, h4⟩
            · exact ⟨y, x, d, i, Or.inr ⟨rfl, rfl, rfl⟩, by omega, hr, h2⟩
          · rintro ⟨y', x', d', i, h1 | ⟨rfl, rfl, rfl⟩, h2, h3, h4⟩
            · exact Or.inl ⟨y', x', d', i, h1, h2, h3, h4⟩
            · exact Or.inr ⟨i, by omega, h4⟩
        · rw [Bool.or_eq_true, hD.one, beq_iff_eq]
          constructor
          · rintro (⟨y', x', d', h1, h2⟩ | h)
            · exact ⟨y', x', d', Or.inl h1, h2⟩
            · exact ⟨y, x, d, Or.inr ⟨rfl, rfl, rfl⟩, h⟩
          · rintro ⟨y', x', d', h1 | ⟨rfl, rfl, rfl⟩, h2⟩
            · exact Or.inl ⟨y', x', d', h1, h2⟩
            · exact Or.inr h2
        · rw [Bool.or_eq_true, hD.two, beq_iff_eq]
          constructor
          · rintro (⟨y', x', d', h1, h2⟩ | h)
            · exact ⟨y', x', d', Or.inl h1, h2⟩
            · exact ⟨y, x, d, Or.inr ⟨rfl, rfl, rfl⟩, h⟩
          · rintro ⟨y', x', d', h1 | ⟨rfl, rfl, rfl⟩, h2⟩
            · exact Or.inl ⟨y', x', d', h1, h2⟩
            · exact Or.inr h2
    · refine ⟨(st.1, st.2.1 || (rv W H c k y x d == 1), st.2.2 || (rv W H c k y x d == 2)), loop_done ?_, hD.len, ?_, ?_, ?_⟩
      · simp only [gameroomref_WonOf_L4]
        rw [if_neg (by simp; omega)]
      · intro p hp
        rw [hD.inn p hp]
        constructor
        · rintro ⟨y', x', d', i, h1, h2, h3, h4⟩
          exact ⟨y', x', d', i, Or.inl h1, h2, h3, h4⟩
        · rintro ⟨y', x', d', i, h1 | ⟨rfl, rfl, rfl⟩, h2, h3, h4⟩
          · exact ⟨y', x', d', i, h1, h2, h3, h4⟩
          · exact absurd h3 hr
      · rw [Bool.or_eq_true, hD.one, beq_iff_eq]
        constructor
        · rintro (⟨y', x', d', h1, h2⟩ | h)
          · exact ⟨y', x', d', Or.inl h1, h2⟩
          · omega
        · rintro ⟨y', x', d', h1 | ⟨rfl, rfl, rfl⟩, h2⟩
          · exact Or.inl ⟨y', x', d', h1, h2⟩
          · exact Or.inr h2
      · rw [Bool.or_eq_true, hD.two, beq_iff_eq]
        constructor
        · rintro (⟨y', x', d', h1, h2⟩ | h)
          · exact ⟨y', x', d', Or.inl h1, h2⟩
          · omega
        · rintro ⟨y', x', d', h1 | ⟨rfl, rfl, rfl⟩, h2⟩
          · exact Or.inl ⟨y', x', d', h1, h2⟩
          · exact Or.inr h2
  obtain ⟨r, hr, hp⟩ := key
  refine ⟨r, ?_, hp⟩
  rw [hr]
  simp only [Option.bind_some, gameroomref_WonOf_K4, gameroomref_WonOf_J7]
  rw [w64_of (by omega)]

theorem x_step (B : Bd W H c k) {S : Int → Int → Int → Prop} {y x : Int} (hx : 0 ≤ x ∧ x < W) (hy : 0 ≤ y ∧ y < H) {st : List Bool × Bool × Bool} (hD : Desc W H c k S st) :
    ∃ st', gameroomref_WonOf_J4 W H c k y st.1 st.2.1 st.2.2 x = some (.next (st'.1, st'.2.1, st'.2.2, x + 1)) ∧ Desc W H c k (fun y' x' d' => S y' x' d' ∨ (y' = y ∧ x' = x ∧ 0 ≤ d' ∧ d' < 4)) st' := by
  have hW := B.w
  unfold gameroomref_WonOf_J4
  have key : ∃ r, loop (gameroomref_WonOf_L3 W H c k y x) (st.1, st.2.1, st.2.2, 0) = some r ∧ Desc W H c k (fun y' x' d' => S y' x' d' ∨ (y' = y ∧ x' = x ∧ 0 ≤ d' ∧ d' < 4)) r := by
    refine count_loop (step := gameroomref_WonOf_L3 W H c k y x) (fun (s : List Bool × Bool × Bool) (i : Nat) => (s.1, s.2.1, s.2.2, (i : Int)))
      (fun n s => Desc W H c k (fun y' x' d' => S y' x' d' ∨ (y' = y ∧ x' = x ∧ 0 ≤ d' ∧ d' < n)) s)
      (fun r => Desc W H c k (fun y' x' d' => S y' x' d' ∨ (y' = y ∧ x' = x ∧ 0 ≤ d' ∧ d' < 4)) r) 4 st (hD.congr (fun y' x' d' => ⟨Or.inl, fun h => by rcases h with h | h; exact h; omega⟩)) ?_ ?_
    · intro i s hi hs
      left
      obtain ⟨s', h1, h2⟩ := d_step B hx hy (d := i) (by omega) hs
      refine ⟨s', ?_, h2.congr fun y' x' d' => ?_⟩
      · simp only [gameroomref_WonOf_L3, gameroomref_WonOf_J6]
        rw [if_pos (by simp; omega), asrt_pos (by omega), asrt_pos (by omega), h1]
        simp
      · constructor
        · rintro ((h | h) | h)
          · exact Or.inl h
          · right; omega
          · right; omega
        · rintro (h | h)
          · exact Or.inl (Or.inl h)
          · by_cases e : d' = i
            · right; omega
            · left; right; omega
    · intro s hs
      refine ⟨s, ?_, hs⟩
      simp only [gameroomref_WonOf_L3]
      rw [if_neg (by simp)]
  obtain ⟨r, hr, hp⟩ := key
  refine ⟨r, ?_, hp⟩
  rw [hr]
  simp only [Option.bind_some, gameroomref_WonOf_K3, gameroomref_WonOf_J5]
  rw [w64_of (by omega)]

theorem y_step (B : Bd W H c k) {S : Int → Int → Int → Prop} {y : Int} (hy : 0 ≤ y ∧ y < H) {st : List Bool × Bool × Bool} (hD : Desc W H c k S st) :
    ∃ st', gameroomref_WonOf_J2 W H c k st.1 st.2.1 st.2.2 y = some (.next (st'.1, st'.2.1, st'.2.2, y + 1)) ∧ Desc W H c k (fun y' x' d' => S y' x' d' ∨ (y' = y ∧ (0 ≤ x' ∧ x' < W) ∧ 0 ≤ d' ∧ d' < 4)) st' := by
  have hW := B.w
  have hH := B.h
  unfold gameroomref_WonOf_J2
  have key : ∃ r, loop (gameroomref_WonOf_L2 W H c k y) (st.1, st.2.1, st.2.2, 0) = some r ∧ Desc W H c k (fun y' x' d' => S y' x' d' ∨ (y' = y ∧ (0 ≤ x' ∧ x' < W) ∧ 0 ≤ d' ∧ d' < 4)) r := by
    refine count_loop (step := gameroomref_WonOf_L2 W H c k y) (fun (s : List Bool × Bool × Bool) (i : Nat) => (s.1, s.2.1, s.2.2, (i : Int)))
      (fun n s => Desc W H c k (fun y' x' d' => S y' x' d' ∨ (y' = y ∧ (0 ≤ x' ∧ x' < n) ∧ 0 ≤ d' ∧ d' < 4)) s)
      (fun r => Desc W H c k (fun y' x' d' => S y' x' d' ∨ (y' = y ∧ (0 ≤ x' ∧ x' < W) ∧ 0 ≤ d' ∧ d' < 4)) r) W.toNat st (hD.congr (fun y' x' d' => ⟨Or.inl, fun h => by rcases h with h | h; exact h; omega⟩)) ?_ ?_
    · intro i s hi hs
      left
      obtain ⟨s', h1, h2⟩ := x_step B (x := i) (by omega) hy hs
      refine ⟨s', ?_, h2.congr fun y' x' d' => ?_⟩
      · simp only [gameroomref_WonOf_L2]
        rw [if_pos (by simp; omega), h1]
        simp
      · constructor
        · rintro ((h | h) | h)
          · exact Or.inl h
          · right; omega
          · right; omega
        · rintro (h | h)
          · exact Or.inl (Or.inl h)
          · by_cases e : x' = i
            · right; omega
            · left; right; omega
    · intro s hs
      refine ⟨s, ?_, hs.congr fun y' x' d' => by rw [show ((W.toNat : Nat) : Int) = W by omega]⟩
      simp only [gameroomref_WonOf_L2]
      rw [if_neg (by simp; omega)]
  obtain ⟨r, hr, hp⟩ := key
  refine ⟨r, ?_, hp⟩
  rw [hr]
  simp only [Option.bind_some, gameroomref_WonOf_K2, gameroomref_WonOf_J3]
  rw [w64_of (by omega)]

/-- All rows. -/
def AllS (W H : Int) (y x d : Int) : Prop := (0 ≤ y ∧ y < H) ∧ (0 ≤ x ∧ x < W) ∧ 0 ≤ d ∧ d < 4

theorem won_scan (B : Bd W H c k) : ∃ st, loop (gameroomref_WonOf_L1 W H c k) ((List.replicate (Int.toNat (c.length : Int)) false), false, false, 0) = some st ∧ Desc W H c k (AllS W H) st := by
  have hH := B.h
  refine count_loop (step := gameroomref_WonOf_L1 W H c k) (fun (s : List Bool × Bool × Bool) (i : Nat) => (s.1, s.2.1, s.2.2, (i : Int)))
    (fun n s => Desc W H c k (fun y x d => (0 ≤ y ∧ y < n) ∧ (0 ≤ x ∧ x < W) ∧ 0 ≤ d ∧ d < 4) s) (fun r => Desc W H c k (AllS W H) r) H.toNat ((List.replicate (Int.toNat (c.length : Int)) false), false, false) ?_ ?_ ?_
  · refine ⟨by simp, fun p hp => ?_, ?_, ?_⟩
    · simp only [getb, List.getD_eq_getElem?_getD, Int.toNat_natCast, List.getElem?_replicate, if_pos hp]
      constructor
      · intro h; cases h
      · rintro ⟨y, x, d, i, ⟨h, _⟩, _⟩; omega
    · constructor
      · intro h; cases h
      · rintro ⟨y, x, d, ⟨h, _⟩, _⟩; omega
    · constructor
      · intro h; cases h
      · rintro ⟨y, x, d, ⟨h, _⟩, _⟩; omega
  · intro i s hi hs
    left
    obtain ⟨s', h1, h2⟩ := y_step B (y := i) (by omega) hs
    refine ⟨s', ?_, h2.congr fun y' x' d' => ?_⟩
    · simp only [gameroomref_WonOf_L1]
      rw [if_pos (by simp; omega), h1]
      simp
    · constructor
      · rintro (h | h) <;> omega
      · intro h
        by_cases e : y' = i
        · right; omega
        · left; omega
  · intro s hs
    refine ⟨s, ?_, hs.congr fun y' x' d' => by rw [show ((H.toNat : Nat) : Int) = H by omega]; rfl⟩
    simp only [gameroomref_WonOf_L1]
    rw [if_neg (by simp; omega)]

/-- Who has a row. -/
def Won (W H : Int) (c : List Int) (k who : Int) : Prop := ∃ y x d : Int, AllS W H y x d ∧ rv W H c k y x d = who
open Classical in
noncomputable def wonN (W H : Int) (c : List Int) (k : Int) : Int := (if Won W H c k 1 then 1 else 0) + (if Won W H c k 2 then 2 else 0)
/-- Is a place in somebody's row? -/
def InRow (W H : Int) (c : List Int) (k : Int) (p : Nat) : Prop := ∃ y x d : Int, ∃ i : Nat, AllS W H y x d ∧ (i : Int) < k ∧ 0 < rv W H c k y x d ∧ (p : Int) = plc W y x d i
open Classical in
noncomputable def wonL (W H : Int) (c : List Int) (k : Int) : List Int := ((List.range c.length).filter (fun p => decide (InRow W H c k p))).map (fun (p : Nat) => (p : Int))

theorem WonOf_eq (B : Bd W H c k) : gameroomref_WonOf_m W H c k = some (wonN W H c k, wonL W H c k) := by
  have hsm := B.small
  obtain ⟨⟨ins, one, two⟩, hst, hD⟩ := won_scan B
  unfold gameroomref_WonOf_m
  rw [asrt_pos (by unfold bigN; omega), hst]
  simp only [Option.bind_some, gameroomref_WonOf_K1]
  have hlist : ∀ n3, gameroomref_WonOf_J12 c ins n3 = some (n3, wonL W H c k) := by
    intro n3
    unfold gameroomref_WonOf_J12
    classical
    have key : ∃ r, loop (gameroomref_WonOf_L5 c ins) (([] : List Int), 0) = some r ∧ r = wonL W H c k := by
      refine count_loop (step := gameroomref_WonOf_L5 c ins) (fun (s : List Int) (i : Nat) => (s, (i : Int)))
        (fun n s => s = ((List.range n).filter (fun p => decide (InRow W H c k p))).map (fun (p : Nat) => (p : Int)) ∧ s.length ≤ n) (fun r => r = wonL W H c k) c.length [] ?_ ?_ ?_
      · simp
      · rintro i s hi ⟨hs, hsl⟩
        left
        have hin := hD.inn i hi
        simp only [gameroomref_WonOf_L5, gameroomref_WonOf_J14, gameroomref_WonOf_J15]
        rw [if_pos (by simp; omega), asrt_pos (by omega)]
        by_cases hb : getb ins (i : Int) = true
        · have hI : InRow W H c k i := hin.1 hb
          refine ⟨s ++ [(i : Int)], ?_, ?_, by simp; omega⟩
          · rw [if_pos hb, asrt_pos (by unfold bigN; omega), w64_of (by omega)]
            simp
          · rw [List.range_succ, List.filter_append, List.map_append, hs]
            simp [hI]
        · have hI : ¬ InRow W H c k i := fun h => hb (hin.2 h)
          refine ⟨s, ?_, ?_, by omega⟩
          · rw [if_neg hb, w64_of (by omega)]
            simp
          · rw [List.range_succ, List.filter_append, List.map_append, hs]
            simp [hI]
      · rintro s ⟨hs, _⟩
        refine ⟨s, ?_, ?_⟩
        · simp only [gameroomref_WonOf_L5]
          rw [if_neg (by simp)]
        · rw [hs]; unfold wonL; congr
    obtain ⟨r, hr, rfl⟩ := key
    rw [hr]
    rfl
  have h1 : one = true ↔ Won W H c k 1 := hD.one
  have h2 : two = true ↔ Won W H c k 2 := hD.two
  simp only [gameroomref_WonOf_J1, gameroomref_WonOf_J11]
  unfold wonN
  by_cases q1 : one = true
  · rw [if_pos q1, if_pos (h1.1 q1)]
    by_cases q2 : two = true
    · rw [if_pos q2, if_pos (h2.1 q2), hlist, w64_of (by omega)]
    · rw [if_neg q2, if_neg (fun h => q2 (h2.2 h)), hlist]; rfl
  · rw [if_neg q1, if_neg (fun h => q1 (h1.2 h))]
    by_cases q2 : two = true
    · rw [if_pos q2, if_pos (h2.1 q2), hlist, w64_of (by omega)]
    · rw [if_neg q2, if_neg (fun h => q2 (h2.2 h)), hlist]; rfl
end
end Go.Proofs.Ytgafnmnacolgbaa
