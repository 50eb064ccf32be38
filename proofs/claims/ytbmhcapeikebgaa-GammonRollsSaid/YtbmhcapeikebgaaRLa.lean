/-
  Men that are borne off, in plain words: boards that come of a number, the mean, and its bounds.
-/
import Derived.Test.YtbmhcapeikebgaaLibY
import Derived.Test.YtbmhcapeikebgaaLibE
import Derived.Test.YtbmhcapeikebgaaLibAM
namespace Go.GL
open Go

def SC : Int := 78364164096
def farF (h : List Int) : Nat → Int
  | 0 => -1
  | n + 1 => if geti h (n : Int) = 0 then farF h n else (n : Int)
def okM (h : List Int) (p : Int) (i : Nat) : Bool := !(geti h (i : Int) == 0) && !(decide ((i : Int) - p < -1) && ((i : Int) != farF h 6))
def nxt (h : List Int) (p : Int) (i : Nat) : List Int :=
  if 0 ≤ (i : Int) - p then (h.set i (geti h (i : Int) - 1)).set ((i : Int) - p).toNat (geti (h.set i (geti h (i : Int) - 1)) ((i : Int) - p) + 1) else h.set i (geti h (i : Int) - 1)
def minB (b n : Int) : Int := if b < 0 ∨ n < b then n else b
def minF (l : List Int) : Int := l.foldl minB (-1)
def movN (h : List Int) (p : Int) (n : Nat) : List (List Int) := ((List.range n).filter (okM h p)).map (nxt h p)
def emptyH (h : List Int) : Bool := geti h 0 == 0 && (geti h 1 == 0 && (geti h 2 == 0 && (geti h 3 == 0 && (geti h 4 == 0 && geti h 5 == 0))))
def bestP (M : List Int → Int) : List Int → List Int → Int
  | [], h => M h
  | p :: ps, h => if emptyH h = true then M h else minF ((movN h p 6).map (bestP M ps))
def thr (M : List Int → Int) (h : List Int) (x y : Int) : Int := if x = y then bestP M [x, x, x, x] h else minI (bestP M [x, y] h) (bestP M [y, x] h)
def rowN (M : List Int → Int) (h : List Int) (x s : Int) : Nat → Int
  | 0 => s
  | j + 1 => w64 (rowN M h x s j + thr M h x ((j : Int) + 1))
def totN (M : List Int → Int) (h : List Int) : Nat → Int
  | 0 => 0
  | i + 1 => rowN M h ((i : Int) + 1) (totN M h i) 6
def meanF : Nat → List Int → Int
  | 0, _ => 0
  | n + 1, h => if emptyH h = true then 0 else w64 (SC + w64 (Int.tdiv (totN (meanF n) h 6) 36))

def menH (h : List Int) : Int := geti h 0 + geti h 1 + geti h 2 + geti h 3 + geti h 4 + geti h 5
def pipH (h : List Int) : Int := geti h 0 + 2 * geti h 1 + 3 * geti h 2 + 4 * geti h 3 + 5 * geti h 4 + 6 * geti h 5
structure GoodH (h : List Int) : Prop where
  len : h.length = 6
  pos : ∀ i : Nat, i < 6 → 0 ≤ geti h (i : Int)
  men : menH h ≤ 3

theorem GoodH.all {h : List Int} (g : GoodH h) : (0 ≤ geti h 0 ∧ 0 ≤ geti h 1 ∧ 0 ≤ geti h 2 ∧ 0 ≤ geti h 3 ∧ 0 ≤ geti h 4 ∧ 0 ≤ geti h 5) ∧ menH h ≤ 3 :=
  ⟨⟨g.pos 0 (by omega), g.pos 1 (by omega), g.pos 2 (by omega), g.pos 3 (by omega), g.pos 4 (by omega), g.pos 5 (by omega)⟩, g.men⟩
theorem GoodH.pip {h : List Int} (g : GoodH h) : 0 ≤ pipH h ∧ pipH h ≤ 18 := by
  have := g.all
  unfold menH at this
  unfold pipH
  omega
theorem set_six {h : List Int} (hl : h.length = 6) {i : Nat} (hi : i < 6) (v : Int) (d : Nat) : geti (h.set i v) (d : Int) = if d = i then v else geti h (d : Int) := by
  rw [geti_set' (by omega) (by omega)]
  by_cases e : d = i
  · subst e; simp
  · rw [if_neg (by omega), if_neg e]
theorem six {i : Nat} (hi : i < 6) : i = 0 ∨ i = 1 ∨ i = 2 ∨ i = 3 ∨ i = 4 ∨ i = 5 := by omega

theorem set_sums {h : List Int} (hl : h.length = 6) {i : Nat} (hi : i < 6) (v : Int) : menH (h.set i v) = menH h + (v - geti h (i : Int)) ∧ pipH (h.set i v) = pipH h + ((i : Int) + 1) * (v - geti h (i : Int)) := by
  have s0 := set_six hl hi v 0
  have s1 := set_six hl hi v 1
  have s2 := set_six hl hi v 2
  have s3 := set_six hl hi v 3
  have s4 := set_six hl hi v 4
  have s5 := set_six hl hi v 5
  simp only [Int.natCast_zero, Int.natCast_one, show ((2 : Nat) : Int) = 2 from rfl, show ((3 : Nat) : Int) = 3 from rfl, show ((4 : Nat) : Int) = 4 from rfl, show ((5 : Nat) : Int) = 5 from rfl] at s0 s1 s2 s3 s4 s5
  unfold menH pipH
  rw [s0, s1, s2, s3, s4, s5]
  rcases six hi with rfl | rfl | rfl | rfl | rfl | rfl <;> simp <;> omega

theorem nxt_good {h : List Int} {p : Int} {i : Nat} (g : GoodH h) (hp : 1 ≤ p) (hi : i < 6) (ho : okM h p i = true) : GoodH (nxt h p i) ∧ pipH (nxt h p i) < pipH h := by
  have h0 := g.pos i hi
  have h1 : geti h (i : Int) ≠ 0 := by
    intro e
    unfold okM at ho
    simp [e] at ho
  have hl := g.len
  obtain ⟨a1, a2⟩ := set_sums hl hi (geti h (i : Int) - 1)
  have hs := set_six hl hi (geti h (i : Int) - 1)
  have hlen : (h.set i (geti h (i : Int) - 1)).length = 6 := by rw [List.length_set]; exact hl
  have hpos : ∀ d : Nat, d < 6 → 0 ≤ geti (h.set i (geti h (i : Int) - 1)) (d : Int) := by
    intro d hd
    rw [hs]
    split
    · omega
    · exact g.pos d hd
  have hm := g.men
  have e1 : ((i : Int) + 1) * (geti h (i : Int) - 1 - geti h (i : Int)) = -((i : Int) + 1) := by
    rw [show geti h (i : Int) - 1 - geti h (i : Int) = -1 by omega]; omega
  unfold nxt
  by_cases q : 0 ≤ (i : Int) - p
  · rw [if_pos q]
    generalize h.set i (geti h (i : Int) - 1) = k at *
    obtain ⟨t, ht⟩ : ∃ t : Nat, (i : Int) - p = t := ⟨((i : Int) - p).toNat, by omega⟩
    rw [ht, Int.toNat_natCast]
    have ht6 : t < 6 := by omega
    obtain ⟨b1, b2⟩ := set_sums hlen ht6 (geti k (t : Int) + 1)
    have e2 : ((t : Int) + 1) * (geti k (t : Int) + 1 - geti k (t : Int)) = (t : Int) + 1 := by
      rw [show geti k (t : Int) + 1 - geti k (t : Int) = 1 by omega]; omega
    refine ⟨⟨by rw [List.length_set]; exact hlen, fun d hd => ?_, by omega⟩, by omega⟩
    rw [set_six hlen ht6]
    split
    · have := hpos t ht6
      omega
    · exact hpos d hd
  · rw [if_neg q]
    exact ⟨⟨hlen, hpos, by omega⟩, by omega⟩

theorem mem_mov {h g : List Int} {p : Int} {n : Nat} (hm : g ∈ movN h p n) : ∃ i, i < n ∧ okM h p i = true ∧ g = nxt h p i := by
  unfold movN at hm
  rw [List.mem_map] at hm
  obtain ⟨i, h1, rfl⟩ := hm
  rw [List.mem_filter, List.mem_range] at h1
  exact ⟨i, h1.1, h1.2, rfl⟩

theorem best_congr {M M' : List Int → Int} {K : Int} (hM : ∀ g, GoodH g → pipH g < K → M g = M' g) : ∀ (ps : List Int) (h : List Int), (∀ p ∈ ps, 1 ≤ p) → GoodH h → (pipH h < K ∨ (pipH h ≤ K ∧ ps ≠ [] ∧ ¬ emptyH h = true)) → bestP M ps h = bestP M' ps h
  | [], h, _, g, hK => by
    rcases hK with hK | ⟨_, hK, _⟩
    · exact hM h g hK
    · exact absurd rfl hK
  | p :: ps, h, hp, g, hK => by
    unfold bestP
    by_cases e : emptyH h = true
    · rw [if_pos e, if_pos e]
      rcases hK with hK | ⟨_, _, hK⟩
      · exact hM h g hK
      · exact absurd e hK
    · rw [if_neg e, if_neg e]
      congr 1
      refine List.map_congr_left fun k hk => ?_
      obtain ⟨i, h1, h2, rfl⟩ := mem_mov hk
      obtain ⟨g1, g2⟩ := nxt_good g (hp p (List.mem_cons_self ..)) h1 h2
      exact best_congr hM ps _ (fun q hq => hp q (List.mem_cons_of_mem _ hq)) g1 (.inl (by omega))

theorem thr_congr {M M' : List Int → Int} {h : List Int} {x y : Int} (hM : ∀ g, GoodH g → pipH g < pipH h → M g = M' g) (g : GoodH h) (he : ¬ emptyH h = true) (hx : 1 ≤ x) (hy : 1 ≤ y) : thr M h x y = thr M' h x y := by
  have go : ∀ ps : List Int, ps ≠ [] → (∀ p ∈ ps, 1 ≤ p) → bestP M ps h = bestP M' ps h := fun ps h1 h2 => best_congr hM ps h h2 g (.inr ⟨Int.le_refl _, h1, he⟩)
  unfold thr
  split
  · exact go _ (by simp) (by simp; exact hx)
  · rw [go [x, y] (by simp) (by simp; omega), go [y, x] (by simp) (by simp; omega)]

theorem row_congr {M M' : List Int → Int} {h : List Int} {x s : Int} (ht : ∀ y, 1 ≤ y → thr M h x y = thr M' h x y) : ∀ j, rowN M h x s j = rowN M' h x s j
  | 0 => rfl
  | j + 1 => by
    unfold rowN
    rw [row_congr ht j, ht _ (by omega)]
theorem tot_congr {M M' : List Int → Int} {h : List Int} (ht : ∀ x y, 1 ≤ x → 1 ≤ y → thr M h x y = thr M' h x y) : ∀ i, totN M h i = totN M' h i
  | 0 => rfl
  | i + 1 => by
    unfold totN
    rw [tot_congr ht i, row_congr (fun y hy => ht _ y (by omega) hy)]

theorem mean_more : ∀ (n m : Nat) (h : List Int), GoodH h → pipH h < n → pipH h < m → meanF n h = meanF m h
  | 0, _, h, g, h1, _ => by have := g.pip; omega
  | _ + 1, 0, h, g, _, h1 => by have := g.pip; omega
  | n + 1, m + 1, h, g, h1, h2 => by
    unfold meanF
    by_cases e : emptyH h = true
    · rw [if_pos e, if_pos e]
    · rw [if_neg e, if_neg e]
      rw [tot_congr (M := meanF n) (M' := meanF m) fun x y hx hy => thr_congr (fun k gk hk => mean_more n m k gk (by omega) (by omega)) g e hx hy]

def meanV (h : List Int) : Int := meanF 19 h
theorem meanV_eq {h : List Int} (g : GoodH h) : meanV h = if emptyH h = true then 0 else w64 (SC + w64 (Int.tdiv (totN meanV h 6) 36)) := by
  have hp := g.pip
  unfold meanV
  rw [mean_more 19 20 h g (by omega) (by omega)]
  conv => lhs; unfold meanF

theorem minF_bd {K : Int} (hK : 0 ≤ K) : ∀ (l : List Int) (b : Int), (-1 ≤ b ∧ b ≤ K) → (∀ x ∈ l, -1 ≤ x ∧ x ≤ K) → -1 ≤ l.foldl minB b ∧ l.foldl minB b ≤ K
  | [], b, hb, _ => hb
  | x :: l, b, hb, h => by
    rw [List.foldl_cons]
    refine minF_bd hK l _ ?_ fun y hy => h y (List.mem_cons_of_mem _ hy)
    have := h x (List.mem_cons_self ..)
    unfold minB
    split <;> omega
theorem best_bd {M : List Int → Int} {K : Int} (hK : 0 ≤ K) (hM : ∀ g, -1 ≤ M g ∧ M g ≤ K) : ∀ (ps : List Int) (h : List Int), -1 ≤ bestP M ps h ∧ bestP M ps h ≤ K
  | [], h => hM h
  | p :: ps, h => by
    unfold bestP
    split
    · exact hM h
    · refine minF_bd hK _ _ (by omega) fun x hx => ?_
      rw [List.mem_map] at hx
      obtain ⟨k, _, rfl⟩ := hx
      exact best_bd hK hM ps k
theorem thr_bd {M : List Int → Int} {K : Int} (hK : 0 ≤ K) (hM : ∀ g, -1 ≤ M g ∧ M g ≤ K) (h : List Int) (x y : Int) : -1 ≤ thr M h x y ∧ thr M h x y ≤ K := by
  have h1 := best_bd hK hM [x, x, x, x] h
  have h2 := best_bd hK hM [x, y] h
  have h3 := best_bd hK hM [y, x] h
  unfold thr minI
  split
  · exact h1
  · split <;> omega
theorem row_bd {M : List Int → Int} {K s a b : Int} (hK : 0 ≤ K ∧ K ≤ 10000000000000000) (hM : ∀ g, -1 ≤ M g ∧ M g ≤ K) (h : List Int) (x : Int) (hs : a ≤ s ∧ s ≤ b) (ha : -1000 ≤ a) (hb : b ≤ 400000000000000000) : ∀ j : Nat, j ≤ 6 → a - j ≤ rowN M h x s j ∧ rowN M h x s j ≤ b + (j : Int) * K
  | 0, _ => by unfold rowN; simp; omega
  | j + 1, hj => by
    have h1 := row_bd hK hM h x hs ha hb j (by omega)
    have h2 := thr_bd hK.1 hM h x ((j : Int) + 1)
    have e : ((j + 1 : Nat) : Int) * K = (j : Int) * K + K := by rw [Int.natCast_succ, Int.add_mul, Int.one_mul]
    have e2 : (j : Int) * K ≤ 6 * K := Int.mul_le_mul_of_nonneg_right (by omega) hK.1
    unfold rowN
    rw [w64_of (by omega), e]
    omega
theorem tot_bd {M : List Int → Int} {K : Int} (hK : 0 ≤ K ∧ K ≤ 10000000000000000) (hM : ∀ g, -1 ≤ M g ∧ M g ≤ K) (h : List Int) : ∀ i : Nat, i ≤ 6 → -6 * (i : Int) ≤ totN M h i ∧ totN M h i ≤ (i : Int) * (6 * K)
  | 0, _ => by unfold totN; simp
  | i + 1, hi => by
    have h1 := tot_bd hK hM h i (by omega)
    have e : ((i + 1 : Nat) : Int) * (6 * K) = (i : Int) * (6 * K) + 6 * K := by rw [Int.natCast_succ, Int.add_mul, Int.one_mul]
    have e2 : (i : Int) * (6 * K) ≤ 6 * (6 * K) := Int.mul_le_mul_of_nonneg_right (by omega) (by omega)
    have h2 := row_bd hK hM h ((i : Int) + 1) h1 (by omega) (by omega) 6 (by omega)
    have e3 : ((6 : Nat) : Int) * K = 6 * K := rfl
    unfold totN
    rw [e]
    omega
theorem mean_bd : ∀ (n : Nat) (h : List Int), n ≤ 19 → 0 ≤ meanF n h ∧ meanF n h ≤ (n : Int) * SC
  | 0, h, _ => by unfold meanF; simp
  | n + 1, h, hn => by
    have hS : (n : Int) * SC ≤ 19 * 78364164096 := Int.mul_le_mul_of_nonneg_right (c := 78364164096) (by omega) (by omega)
    have h0 : 0 ≤ (n : Int) * SC := Int.mul_nonneg (by omega) (by unfold SC; omega)
    have h1 := tot_bd (M := meanF n) (K := (n : Int) * SC) (by omega) (fun g => by have := mean_bd n g (by omega); omega) h 6 (by omega)
    have e : ((n + 1 : Nat) : Int) * SC = (n : Int) * SC + SC := by rw [Int.natCast_succ, Int.add_mul, Int.one_mul]
    have eS : SC = 78364164096 := rfl
    unfold meanF
    rw [e]
    split
    · omega
    · generalize totN (meanF n) h 6 = s at h1
      generalize (n : Int) * SC = K at *
      have h2 : -1 ≤ Int.tdiv s 36 ∧ Int.tdiv s 36 ≤ K := by
        rcases Int.lt_or_le s 0 with q | q
        · obtain ⟨t, rfl⟩ : ∃ t, s = -t := ⟨-s, by omega⟩
          rw [Int.neg_tdiv, Int.tdiv_eq_ediv_of_nonneg (by omega)]
          omega
        · rw [Int.tdiv_eq_ediv_of_nonneg q]
          omega
      rw [w64_of (x := Int.tdiv s 36) (by omega), w64_of (by omega)]
      omega
theorem meanV_pos (h : List Int) : 0 ≤ meanV h := (mean_bd 19 h (by omega)).1
theorem meanV_le (h : List Int) : meanV h ≤ 1488919117824 := (mean_bd 19 h (by omega)).2
end Go.GL
