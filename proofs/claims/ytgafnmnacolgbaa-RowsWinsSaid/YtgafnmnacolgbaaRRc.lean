/-
  Rows on a board: the program's lines and who owns them.
-/
import Derived.Test.YtgafnmnacolgbaaRRb
namespace Go.Proofs.Ytgafnmnacolgbaa
open Go Go.GL

def PX (d : Int) : Int := geti [1, 0, 0, 1, 1, 1, -1, 1] (d * 2)
def PY (d : Int) : Int := geti [1, 0, 0, 1, 1, 1, -1, 1] (d * 2 + 1)
theorem pxy {d : Int} (h : 0 ≤ d ∧ d < 4) : (PX d = -1 ∨ PX d = 0 ∨ PX d = 1) ∧ (PY d = 0 ∨ PY d = 1) := by
  obtain rfl | rfl | rfl | rfl : d = 0 ∨ d = 1 ∨ d = 2 ∨ d = 3 := by omega
  all_goals decide

section
variable {W H k : Int} {c : List Int}

def ppl (W y x d i : Int) : Int := (y + PY d * i) * W + (x + PX d * i)
def lineP (W k y x d : Int) : List Int := (List.range k.toNat).map fun i => ppl W y x d (i : Nat)
def Fit (W H k y x d : Int) : Prop := 0 ≤ x + PX d * (k - 1) ∧ x + PX d * (k - 1) < W ∧ y + PY d * (k - 1) < H

theorem fit_in (_hk : 1 ≤ k ∧ k ≤ 10) {y x d : Int} (hx : 0 ≤ x ∧ x < W) (hy : 0 ≤ y ∧ y < H) (hd : 0 ≤ d ∧ d < 4) (h : Fit W H k y x d) {i : Nat} (hi : (i : Int) < k) :
    0 ≤ x + PX d * i ∧ x + PX d * i < W ∧ 0 ≤ y + PY d * i ∧ y + PY d * i < H := by
  obtain ⟨h1, h2, h3⟩ := h
  obtain ⟨p1, p2⟩ := pxy hd
  rcases p1 with p | p | p <;> rcases p2 with q | q <;> rw [p] at h1 h2 ⊢ <;> rw [q] at h3 ⊢ <;> omega

theorem w64_ix (hW : 1 ≤ W ∧ W ≤ 10) {y x a b : Int} (hb : -30 ≤ y + b ∧ y + b ≤ 30) (hx : -30 ≤ x ∧ x ≤ 30) (ha : -30 ≤ a ∧ a ≤ 30) (hb2 : -30 ≤ b ∧ b ≤ 30) :
    w64 (w64 (w64 (w64 (y + w64 b) * W) + x) + w64 a) = (y + b) * W + (x + a) := by
  have hm := mul_bd hb hW
  rw [w64_of (x := b) (by omega), w64_of (x := a) (by omega), w64_of (x := y + b) (by omega), w64_of (x := (y + b) * W) (by omega), w64_of (x := (y + b) * W + x) (by omega), w64_of (by omega)]
  omega

structure DescL (W H k : Int) (S : Int → Int → Int → Prop) (n : Int) (Ls : List (List Int)) : Prop where
  sound : ∀ l ∈ Ls, ∃ y x d : Int, S y x d ∧ Fit W H k y x d ∧ l = lineP W k y x d
  all : ∀ y x d : Int, S y x d → Fit W H k y x d → lineP W k y x d ∈ Ls
  len : (Ls.length : Int) ≤ n

theorem DescL.congr {S T : Int → Int → Int → Prop} {n m : Int} {Ls : List (List Int)} (h : DescL W H k S n Ls) (e : ∀ y x d, S y x d ↔ T y x d) (hn : n ≤ m) : DescL W H k T m Ls := by
  have : S = T := by
    funext y x d
    exact propext (e y x d)
  rw [← this]
  exact ⟨h.sound, h.all, by have := h.len; omega⟩

theorem ld_step (hW : 1 ≤ W ∧ W ≤ 10) (hH : 1 ≤ H ∧ H ≤ 10) (hk : 1 ≤ k ∧ k ≤ 10) {S : Int → Int → Int → Prop} {y x d n : Int} (hx : 0 ≤ x ∧ x < W) (hy : 0 ≤ y ∧ y < H) (hd : 0 ≤ d ∧ d < 4) {Ls : List (List Int)} (hn : n ≤ 1000) (hD : DescL W H k S n Ls) :
    ∃ Ls', rows_lines_J6 W H k y x Ls d = some (.next (Ls', d + 1)) ∧ DescL W H k (fun y' x' d' => S y' x' d' ∨ (y' = y ∧ x' = x ∧ d' = d)) (n + 1) Ls' := by
  obtain ⟨p1, p2⟩ := pxy hd
  have hlen := hD.len
  unfold rows_lines_J6
  rw [asrt_pos hd]
  change ∃ Ls', (if (((decide ((w64 (x + (w64 (PX d * (w64 (k - 1)))))) < 0)) || (decide (W ≤ (w64 (x + (w64 (PX d * (w64 (k - 1))))))))) || (decide (H ≤ (w64 (y + (w64 (PY d * (w64 (k - 1))))))))) then ((rows_lines_J7 d) Ls) else ((rows_lines_J8 W k y x Ls d))) = _ ∧ _
  have b1 : -10 ≤ PX d * (k - 1) ∧ PX d * (k - 1) ≤ 10 := by rcases p1 with p | p | p <;> rw [p] <;> omega
  have b2 : 0 ≤ PY d * (k - 1) ∧ PY d * (k - 1) ≤ 10 := by rcases p2 with p | p <;> rw [p] <;> omega
  rw [w64_of (x := k - 1) (by omega), w64_of (x := PX d * (k - 1)) (by omega), w64_of (x := PY d * (k - 1)) (by omega), w64_of (x := x + PX d * (k - 1)) (by omega), w64_of (x := y + PY d * (k - 1)) (by omega)]
  by_cases hf : Fit W H k y x d
  · rw [if_neg (by obtain ⟨h1, h2, h3⟩ := hf; simp; omega)]
    unfold rows_lines_J8
    have key : ∃ r, loop (rows_lines_L4 W k y x d) (([] : List Int), 0) = some r ∧ r = lineP W k y x d := by
      refine count_loop (step := rows_lines_L4 W k y x d) (fun (s : List Int) (i : Nat) => (s, (i : Int))) (fun n s => s = (List.range n).map fun i => ppl W y x d (i : Nat)) (fun r => r = lineP W k y x d) k.toNat [] (by simp) ?_ ?_
      · rintro i s hi hs
        left
        have t1 := tri_bd (i := i) p1 (by omega)
        have t2 := tri_bd (d := PY d) (i := i) (by omega) (by omega)
        have hl : s.length = i := by rw [hs]; simp
        refine ⟨s ++ [ppl W y x d i], ?_, ?_⟩
        · change (if decide ((i : Int) < k) then rows_lines_J10 W y x d s i else _) = _
          unfold rows_lines_J10 rows_lines_J11
          rw [if_pos (by simp; omega), asrt_pos (by unfold bigN; omega)]
          change some (St.next (s ++ [w64 (w64 (w64 (w64 (y + w64 (PY d * (i : Int))) * W) + x) + w64 (PX d * (i : Int)))], w64 ((i : Int) + 1))) = _
          rw [w64_ix hW (by omega) (by omega) (by omega) (by omega), w64_of (by omega)]
          simp [ppl]
        · rw [hs, List.range_succ, List.map_append]; rfl
      · rintro s hs
        refine ⟨s, ?_, hs⟩
        simp only [rows_lines_L4]
        rw [if_neg (by simp; omega)]
    obtain ⟨r, hr, rfl⟩ := key
    rw [hr, Option.bind_some]
    have h9 : rows_lines_K4 Ls d (lineP W k y x d) = some (.next (Ls ++ [lineP W k y x d], d + 1)) := by
      change rows_lines_J9 Ls d (lineP W k y x d) = _
      unfold rows_lines_J9 rows_lines_J7
      rw [asrt_pos (by unfold bigR; omega), w64_of (by omega)]
    rw [h9]
    refine ⟨_, rfl, ?_, ?_, ?_⟩
    · intro l hl
      rcases List.mem_append.1 hl with h | h
      · obtain ⟨y', x', d', h1, h2, h3⟩ := hD.sound l h
        exact ⟨y', x', d', Or.inl h1, h2, h3⟩
      · rw [List.mem_singleton] at h
        exact ⟨y, x, d, Or.inr ⟨rfl, rfl, rfl⟩, hf, h⟩
    · rintro y' x' d' (h | ⟨rfl, rfl, rfl⟩) h2
      · exact List.mem_append_left _ (hD.all y' x' d' h h2)
      · exact List.mem_append_right _ (List.mem_singleton.2 rfl)
    · simp; omega
  · rw [if_pos (by unfold Fit at hf; simp; omega)]
    refine ⟨Ls, ?_, ?_, ?_, by omega⟩
    · unfold rows_lines_J7
      rw [w64_of (by omega)]
    · intro l hl
      obtain ⟨y', x', d', h1, h2, h3⟩ := hD.sound l hl
      exact ⟨y', x', d', Or.inl h1, h2, h3⟩
    · rintro y' x' d' (h | ⟨rfl, rfl, rfl⟩) h2
      · exact hD.all y' x' d' h h2
      · exact absurd h2 hf

theorem lx_step (hW : 1 ≤ W ∧ W ≤ 10) (hH : 1 ≤ H ∧ H ≤ 10) (hk : 1 ≤ k ∧ k ≤ 10) {S : Int → Int → Int → Prop} {y x n : Int} (hx : 0 ≤ x ∧ x < W) (hy : 0 ≤ y ∧ y < H) {Ls : List (List Int)} (hn : n ≤ 900) (hD : DescL W H k S n Ls) :
    ∃ Ls', rows_lines_J4 W H k y Ls x = some (.next (Ls', x + 1)) ∧ DescL W H k (fun y' x' d' => S y' x' d' ∨ (y' = y ∧ x' = x ∧ 0 ≤ d' ∧ d' < 4)) (n + 4) Ls' := by
  unfold rows_lines_J4
  have key : ∃ r, loop (rows_lines_L3 W H k y x) (Ls, 0) = some r ∧ DescL W H k (fun y' x' d' => S y' x' d' ∨ (y' = y ∧ x' = x ∧ 0 ≤ d' ∧ d' < 4)) (n + 4) r := by
    refine count_loop (step := rows_lines_L3 W H k y x) (fun (s : List (List Int)) (i : Nat) => (s, (i : Int)))
      (fun m s => DescL W H k (fun y' x' d' => S y' x' d' ∨ (y' = y ∧ x' = x ∧ 0 ≤ d' ∧ d' < m)) (n + m) s)
      (fun r => DescL W H k (fun y' x' d' => S y' x' d' ∨ (y' = y ∧ x' = x ∧ 0 ≤ d' ∧ d' < 4)) (n + 4) r) 4 Ls (hD.congr (fun y' x' d' => ⟨Or.inl, fun h => by rcases h with h | h; exact h; omega⟩) (by omega)) ?_ ?_
    · intro i s hi hs
      left
      obtain ⟨s', h1, h2⟩ := ld_step hW hH hk hx hy (d := i) (by omega) (by omega) hs
      refine ⟨s', ?_, h2.congr (fun y' x' d' => ?_) (by omega)⟩
      · simp only [rows_lines_L3]
        rw [if_pos (by simp; omega), h1]
        simp
      · constructor
        · rintro ((h | h) | h)
          · exact Or.inl h
          · right; omega
          · right; omega
        · rintro (h | h)
          · exact Or.inl (Or.inl h)
          · by_cases e : d' = i
            · right; omega
            · left; right; omega
    · intro s hs
      refine ⟨s, ?_, hs⟩
      simp only [rows_lines_L3]
      rw [if_neg (by simp)]
  obtain ⟨r, hr, hp⟩ := key
  refine ⟨r, ?_, hp⟩
  rw [hr]
  simp only [Option.bind_some, rows_lines_K3, rows_lines_J5]
  rw [w64_of (by omega)]

theorem ly_step (hW : 1 ≤ W ∧ W ≤ 10) (hH : 1 ≤ H ∧ H ≤ 10) (hk : 1 ≤ k ∧ k ≤ 10) {S : Int → Int → Int → Prop} {y n : Int} (hy : 0 ≤ y ∧ y < H) {Ls : List (List Int)} (hn : n ≤ 600) (hD : DescL W H k S n Ls) :
    ∃ Ls', rows_lines_J2 W H k Ls y = some (.next (Ls', y + 1)) ∧ DescL W H k (fun y' x' d' => S y' x' d' ∨ (y' = y ∧ (0 ≤ x' ∧ x' < W) ∧ 0 ≤ d' ∧ d' < 4)) (n + 40) Ls' := by
  unfold rows_lines_J2
  have key : ∃ r, loop (rows_lines_L2 W H k y) (Ls, 0) = some r ∧ DescL W H k (fun y' x' d' => S y' x' d' ∨ (y' = y ∧ (0 ≤ x' ∧ x' < W) ∧ 0 ≤ d' ∧ d' < 4)) (n + 40) r := by
    refine count_loop (step := rows_lines_L2 W H k y) (fun (s : List (List Int)) (i : Nat) => (s, (i : Int)))
      (fun m s => DescL W H k (fun y' x' d' => S y' x' d' ∨ (y' = y ∧ (0 ≤ x' ∧ x' < m) ∧ 0 ≤ d' ∧ d' < 4)) (n + 4 * m) s)
      (fun r => DescL W H k (fun y' x' d' => S y' x' d' ∨ (y' = y ∧ (0 ≤ x' ∧ x' < W) ∧ 0 ≤ d' ∧ d' < 4)) (n + 40) r) W.toNat Ls (hD.congr (fun y' x' d' => ⟨Or.inl, fun h => by rcases h with h | h; exact h; omega⟩) (by omega)) ?_ ?_
    · intro i s hi hs
      left
      obtain ⟨s', h1, h2⟩ := lx_step hW hH hk (x := i) (by omega) hy (by omega) hs
      refine ⟨s', ?_, h2.congr (fun y' x' d' => ?_) (by omega)⟩
      · simp only [rows_lines_L2]
        rw [if_pos (by simp; omega), h1]
        simp
      · constructor
        · rintro ((h | h) | h)
          · exact Or.inl h
          · right; omega
          · right; omega
        · rintro (h | h)
          · exact Or.inl (Or.inl h)
          · by_cases e : x' = i
            · right; omega
            · left; right; omega
    · intro s hs
      refine ⟨s, ?_, hs.congr (fun y' x' d' => by rw [show ((W.toNat : Nat) : Int) = W by omega]) (by omega)⟩
      simp only [rows_lines_L2]
      rw [if_neg (by simp; omega)]
  obtain ⟨r, hr, hp⟩ := key
  refine ⟨r, ?_, hp⟩
  rw [hr]
  simp only [Option.bind_some, rows_lines_K2, rows_lines_J3]
  rw [w64_of (by omega)]

theorem lines_eq (hW : 1 ≤ W ∧ W ≤ 10) (hH : 1 ≤ H ∧ H ≤ 10) (hk : 1 ≤ k ∧ k ≤ 10) : ∃ Ls, rows_lines_m W H k = some Ls ∧ DescL W H k (AllS W H) 400 Ls := by
  unfold rows_lines_m
  have key : ∃ r, loop (rows_lines_L1 W H k) (([] : List (List Int)), 0) = some r ∧ DescL W H k (AllS W H) 400 r := by
    refine count_loop (step := rows_lines_L1 W H k) (fun (s : List (List Int)) (i : Nat) => (s, (i : Int)))
      (fun m s => DescL W H k (fun y x d => (0 ≤ y ∧ y < m) ∧ (0 ≤ x ∧ x < W) ∧ 0 ≤ d ∧ d < 4) (40 * m) s) (fun r => DescL W H k (AllS W H) 400 r) H.toNat [] ?_ ?_ ?_
    · exact ⟨by simp, fun y x d h => by omega, by simp⟩
    · intro i s hi hs
      left
      obtain ⟨s', h1, h2⟩ := ly_step hW hH hk (y := i) (by omega) (by omega) hs
      refine ⟨s', ?_, h2.congr (fun y' x' d' => ?_) (by omega)⟩
      · simp only [rows_lines_L1]
        rw [if_pos (by simp; omega), h1]
        simp
      · constructor
        · rintro (h | h) <;> omega
        · intro h
          by_cases e : y' = i
          · right; omega
          · left; omega
    · intro s hs
      refine ⟨s, ?_, hs.congr (fun y' x' d' => by rw [show ((H.toNat : Nat) : Int) = H by omega]; rfl) (by omega)⟩
      simp only [rows_lines_L1]
      rw [if_neg (by simp; omega)]
  obtain ⟨r, hr, hp⟩ := key
  exact ⟨r, by rw [hr]; rfl, hp⟩

/-! ## Who owns a line -/

theorem lineP_get {y x d : Int} {i : Nat} (hi : (i : Int) < k) : geti (lineP W k y x d) (i : Int) = ppl W y x d i := by
  rw [geti_nat, List.getD_eq_getElem?_getD]
  unfold lineP
  rw [List.getElem?_map, List.getElem?_range (by omega)]
  rfl

theorem owner_eq (B : Bd W H c k) (Ls : List (List Int)) {y x d : Int} (hS : AllS W H y x d) (hf : Fit W H k y x d) : rows_match_owner_m c Ls (lineP W k y x d) = some (rowV W H c k x y (PX d) (PY d)) := by
  obtain ⟨hy, hx, hd⟩ := hS
  have hk := B.k
  have hlen : ((lineP W k y x d).length : Int) = k := by unfold lineP; simp; omega
  have hin : ∀ i : Nat, (i : Int) < k → 0 ≤ ppl W y x d i ∧ ppl W y x d i < c.length := by
    intro i hi
    have h := fit_in hk hx hy hd hf hi
    exact B.idx ⟨h.1, h.2.1⟩ h.2.2
  have e0 : geti (lineP W k y x d) 0 = y * W + x := by
    have := lineP_get (W := W) (k := k) (y := y) (x := x) (d := d) (i := 0) (by omega)
    rw [show ((0 : Nat) : Int) = 0 from rfl] at this
    rw [this]; unfold ppl; simp
  have h0 := hin 0 (by omega)
  rw [show ppl W y x d ((0 : Nat) : Int) = y * W + x by unfold ppl; simp] at h0
  unfold rows_match_owner_m
  rw [asrt_pos (by omega), e0, asrt_pos h0]
  have key : ∃ r, loop (rows_match_owner_L1 c (lineP W k y x d)) 0 = some r ∧ ((r = .go () ∧ LineAt W H c k x y (PX d) (PY d) (geti c (y * W + x))) ∨ (r = .ret 0 ∧ ¬ LineAt W H c k x y (PX d) (PY d) (geti c (y * W + x)))) := by
    refine count_loop (step := rows_match_owner_L1 c (lineP W k y x d)) (fun (_ : Unit) (i : Nat) => (i : Int))
      (fun n _ => ∀ i : Nat, i < n → geti c (ppl W y x d i) = geti c (y * W + x))
      (fun r => (r = .go () ∧ LineAt W H c k x y (PX d) (PY d) (geti c (y * W + x))) ∨ (r = .ret 0 ∧ ¬ LineAt W H c k x y (PX d) (PY d) (geti c (y * W + x)))) k.toNat () (fun i hi => by omega) ?_ ?_
    · rintro i - hi hI
      have hii := hin i (by omega)
      simp only [rows_match_owner_L1, rows_match_owner_J2, rows_match_owner_J3]
      rw [if_pos (by simp; omega), asrt_pos (by omega), lineP_get (by omega), e0, asrt_pos hii, w64_of (by omega)]
      by_cases h : geti c (ppl W y x d i) = geti c (y * W + x)
      · left
        refine ⟨(), by rw [if_neg (by simpa using h)]; simp, fun j hj => ?_⟩
        by_cases e : j = i
        · subst e; exact h
        · exact hI j (by omega)
      · right
        exact ⟨.ret 0, by rw [if_pos (by simpa using h)], Or.inr ⟨rfl, fun hl => h (hl i (by omega)).2.2.2.2⟩⟩
    · rintro - hI
      refine ⟨.go (), ?_, Or.inl ⟨rfl, fun i hi => ?_⟩⟩
      · simp only [rows_match_owner_L1]
        rw [if_neg (by simp; omega)]
      · have h := fit_in hk hx hy hd hf hi
        exact ⟨h.1, h.2.1, h.2.2.1, h.2.2.2, hI i (by omega)⟩
  obtain ⟨r, hr, hp⟩ := key
  rw [hr]
  rcases hp with ⟨rfl, h⟩ | ⟨rfl, h⟩
  · simp only [Option.bind_some, rows_match_owner_K1, rows_match_owner_J1, rowV, e0]
    rw [if_pos h]
  · simp only [Option.bind_some, rows_match_owner_K1, rowV]
    rw [if_neg h]

theorem rowV_iff (hk : 1 ≤ k) {x y dx dy who : Int} (hw : who ≠ 0) : rowV W H c k x y dx dy = who ↔ LineAt W H c k x y dx dy who := by
  unfold rowV
  constructor
  · intro h
    split at h
    · rename_i h2; rw [h] at h2; exact h2
    · exact absurd h.symm hw
  · intro h
    have h0 := (h 0 (by omega)).2.2.2.2
    have e : (y + dy * ((0 : Nat) : Int)) * W + (x + dx * ((0 : Nat) : Int)) = y * W + x := by simp
    rw [e] at h0
    rw [h0, if_pos h]

theorem line_fit (hk : 1 ≤ k) {x y d who : Int} (h : LineAt W H c k x y (PX d) (PY d) who) : Fit W H k y x d := by
  have := h (k - 1).toNat (by omega)
  rw [show (((k - 1).toNat : Nat) : Int) = k - 1 by omega] at this
  exact ⟨this.1, this.2.1, this.2.2.2.1⟩

/-- Turned round. -/
theorem line_flip {x y who : Int} (h : LineAt W H c k x y (-1) 1 who) : LineAt W H c k (x - (k - 1)) (y + (k - 1)) 1 (-1) who := by
  intro i hi
  have := h (k - 1 - i).toNat (by omega)
  rw [show (((k - 1 - i).toNat : Nat) : Int) = k - 1 - i by omega] at this
  rw [show x - (k - 1) + 1 * (i : Int) = x + -1 * (k - 1 - i) by omega, show y + (k - 1) + -1 * (i : Int) = y + 1 * (k - 1 - i) by omega]
  exact this
theorem line_flip' {x y who : Int} (h : LineAt W H c k x y 1 (-1) who) : LineAt W H c k (x + (k - 1)) (y - (k - 1)) (-1) 1 who := by
  intro i hi
  have := h (k - 1 - i).toNat (by omega)
  rw [show (((k - 1 - i).toNat : Nat) : Int) = k - 1 - i by omega] at this
  rw [show x + (k - 1) + -1 * (i : Int) = x + 1 * (k - 1 - i) by omega, show y - (k - 1) + 1 * (i : Int) = y + -1 * (k - 1 - i) by omega]
  exact this

theorem won_iff (B : Bd W H c k) {who : Int} (hw : who ≠ 0) {Ls : List (List Int)} (hD : DescL W H k (AllS W H) 400 Ls) : Won W H c k who ↔ ∃ l ∈ Ls, rows_match_owner_m c Ls l = some who := by
  have hk := B.k
  have prog : (∃ l ∈ Ls, rows_match_owner_m c Ls l = some who) ↔ ∃ y x d : Int, AllS W H y x d ∧ LineAt W H c k x y (PX d) (PY d) who := by
    constructor
    · rintro ⟨l, hl, ho⟩
      obtain ⟨y, x, d, hS, hf, rfl⟩ := hD.sound l hl
      rw [owner_eq B Ls hS hf] at ho
      injection ho with ho
      exact ⟨y, x, d, hS, (rowV_iff hk.1 hw).1 ho⟩
    · rintro ⟨y, x, d, hS, h⟩
      have hf := line_fit hk.1 h
      exact ⟨_, hD.all y x d hS hf, by rw [owner_eq B Ls hS hf, (rowV_iff hk.1 hw).2 h]⟩
  rw [prog]
  unfold Won rv
  constructor
  · rintro ⟨y, x, d, hS, h⟩
    have h := (rowV_iff hk.1 hw).1 h
    obtain ⟨hy, hx, hd⟩ := hS
    obtain rfl | rfl | rfl | rfl : d = 0 ∨ d = 1 ∨ d = 2 ∨ d = 3 := by omega
    · exact ⟨y, x, 0, ⟨hy, hx, hd⟩, h⟩
    · exact ⟨y, x, 1, ⟨hy, hx, hd⟩, h⟩
    · exact ⟨y, x, 2, ⟨hy, hx, hd⟩, h⟩
    · have h' := line_flip' h
      have h0 := h' 0 (by omega)
      simp only [Int.natCast_zero, Int.mul_zero, Int.add_zero] at h0
      exact ⟨y - (k - 1), x + (k - 1), 3, ⟨by omega, by omega, by omega⟩, h'⟩
  · rintro ⟨y, x, d, hS, h⟩
    obtain ⟨hy, hx, hd⟩ := hS
    obtain rfl | rfl | rfl | rfl : d = 0 ∨ d = 1 ∨ d = 2 ∨ d = 3 := by omega
    · exact ⟨y, x, 0, ⟨hy, hx, hd⟩, (rowV_iff hk.1 hw).2 h⟩
    · exact ⟨y, x, 1, ⟨hy, hx, hd⟩, (rowV_iff hk.1 hw).2 h⟩
    · exact ⟨y, x, 2, ⟨hy, hx, hd⟩, (rowV_iff hk.1 hw).2 h⟩
    · have h' := line_flip h
      have h0 := h' 0 (by omega)
      simp only [Int.natCast_zero, Int.mul_zero, Int.add_zero] at h0
      exact ⟨y + (k - 1), x - (k - 1), 3, ⟨by omega, by omega, by omega⟩, (rowV_iff hk.1 hw).2 h'⟩

theorem bor_small : ∀ n r : Int, 0 ≤ n ∧ n ≤ 3 → 0 ≤ r ∧ r ≤ 2 → bOr n r = (if n % 2 = 1 ∨ r = 1 then 1 else 0) + (if 2 ≤ n ∨ r = 2 then 2 else 0) := by
  intro n r hn hr
  obtain rfl | rfl | rfl | rfl : n = 0 ∨ n = 1 ∨ n = 2 ∨ n = 3 := by omega
  all_goals (obtain rfl | rfl | rfl : r = 0 ∨ r = 1 ∨ r = 2 := by omega)
  all_goals decide

theorem won_eq (B : Bd W H c k) (hv : ∀ x ∈ c, 0 ≤ x ∧ x ≤ 2) {Ls : List (List Int)} (hD : DescL W H k (AllS W H) 400 Ls) : rows_match_won_m c Ls = some (wonN W H c k) := by
  classical
  have hlen := hD.len
  have hcell : ∀ j : Int, 0 ≤ geti c j ∧ geti c j ≤ 2 := by
    intro j
    unfold geti
    rw [List.getD_eq_getElem?_getD]
    cases h : c[j.toNat]? with
    | none => simp
    | some v => exact hv v (List.mem_of_getElem? h)
  have hown : ∀ i : Nat, i < Ls.length → ∃ v, rows_match_owner_m c Ls (geti2 Ls (i : Int)) = some v ∧ 0 ≤ v ∧ v ≤ 2 := by
    intro i hi
    have hm : geti2 Ls (i : Int) ∈ Ls := by
      unfold geti2
      rw [Int.toNat_natCast, List.getD_eq_getElem?_getD, List.getElem?_eq_getElem hi]
      exact List.getElem_mem _
    obtain ⟨y, x, d, hS, hf, e⟩ := hD.sound _ hm
    rw [e, owner_eq B Ls hS hf]
    refine ⟨_, rfl, ?_⟩
    unfold rowV
    split
    · exact hcell _
    · omega
  unfold rows_match_won_m
  let Q (n : Nat) (who : Int) : Prop := ∃ i : Nat, i < n ∧ rows_match_owner_m c Ls (geti2 Ls (i : Int)) = some who
  have qs : ∀ (n : Nat) (who v : Int), rows_match_owner_m c Ls (geti2 Ls (n : Int)) = some v → (Q (n + 1) who ↔ Q n who ∨ v = who) := by
    intro n who v hv
    constructor
    · rintro ⟨i, hi, h⟩
      by_cases e : i = n
      · subst e; rw [hv] at h; injection h with h; exact Or.inr h
      · exact Or.inl ⟨i, by omega, h⟩
    · rintro (⟨i, hi, h⟩ | h)
      · exact ⟨i, by omega, h⟩
      · exact ⟨n, by omega, by rw [hv, h]⟩
  have key : ∃ r, loop (rows_match_won_L1 c Ls) (0, 0) = some r ∧ r = (if Q Ls.length 1 then 1 else 0) + (if Q Ls.length 2 then 2 else 0) := by
    refine count_loop (step := rows_match_won_L1 c Ls) (fun (s : Int) (i : Nat) => (s, (i : Int))) (fun n s => s = (if Q n 1 then 1 else 0) + (if Q n 2 then 2 else 0)) (fun r => r = (if Q Ls.length 1 then 1 else 0) + (if Q Ls.length 2 then 2 else 0)) Ls.length 0 ?_ ?_ ?_
    · rw [if_neg (by rintro ⟨i, hi, _⟩; omega), if_neg (by rintro ⟨i, hi, _⟩; omega)]; rfl
    · rintro i s hi hs
      left
      obtain ⟨v, hv1, hv2⟩ := hown i hi
      have hs3 : 0 ≤ s ∧ s ≤ 3 ∧ (s % 2 = 1 ↔ Q i 1) ∧ (2 ≤ s ↔ Q i 2) := by
        rw [hs]
        by_cases q1 : Q i 1 <;> by_cases q2 : Q i 2 <;> simp [q1, q2]
      refine ⟨bOr s v, ?_, ?_⟩
      · simp only [rows_match_won_L1, rows_match_won_J2]
        rw [if_pos (by simp; omega), asrt_pos (by omega), hv1]
        simp only [Option.bind_some, rows_match_won_J3]
        rw [w64_of (by omega)]
        simp
      · rw [bor_small s v ⟨hs3.1, hs3.2.1⟩ hv2]
        simp only [hs3.2.2.1, hs3.2.2.2, qs i 1 v hv1, qs i 2 v hv1]
    · rintro s hs
      refine ⟨s, ?_, hs⟩
      simp only [rows_match_won_L1]
      rw [if_neg (by simp)]
  obtain ⟨r, hr, rfl⟩ := key
  rw [hr]
  simp only [Option.bind_some, rows_match_won_K1, rows_match_won_J1]
  have qw : ∀ who : Int, who ≠ 0 → (Q Ls.length who ↔ Won W H c k who) := by
    intro who hw
    rw [won_iff B hw hD]
    constructor
    · rintro ⟨i, hi, h⟩
      refine ⟨_, ?_, h⟩
      unfold geti2
      rw [Int.toNat_natCast, List.getD_eq_getElem?_getD, List.getElem?_eq_getElem hi]
      exact List.getElem_mem _
    · rintro ⟨l, hl, h⟩
      obtain ⟨i, hi, rfl⟩ := List.getElem_of_mem hl
      refine ⟨i, hi, ?_⟩
      unfold geti2
      rw [Int.toNat_natCast, List.getD_eq_getElem?_getD, List.getElem?_eq_getElem hi]
      exact h
  unfold wonN
  simp only [qw 1 (by decide), qw 2 (by decide)]
end
end Go.Proofs.Ytgafnmnacolgbaa
