/-
  CribShows, CribKeeps: what cards may be, ranks, points, the ways of a row.
-/
import Derived.Test.YtlkdblflibgfpaaNCK
import Derived.Test.YtlkdblflibgfpaaLibX
import Derived.Test.YtlkdblflibgfpaaLibY
import Derived.Test.YtlkdblflibgfpaaLibT
import Derived.Test.YtlkdblflibgfpaaVA
namespace Go.Proofs.Ytlkdblflibgfpaa
open Go Go.GL
theorem comp_full {s : List Int} (h : (compI s).length = s.length) : compI s = s := by
  unfold compI Lib.compact Lib.compactUpTo at h ⊢
  rw [List.length_map] at h
  have h2 : ((List.range s.length).filter (Lib.keeps s.toArray)).length = (List.range s.length).length := by rw [h, List.length_range]
  have h3 := List.filter_eq_self.2 (List.length_filter_eq_length_iff.1 h2)
  rw [h3]
  apply List.ext_getElem
  · simp
  · intro i h4 h5
    simp [h5]

theorem dup_iff (l : List Int) : (compI (sortI l)).length < l.length ↔ ¬ l.Nodup := by
  have hp : (sortI l).Nodup ↔ l.Nodup := (List.mergeSort_perm l _).nodup_iff
  have sl := sortI_length l
  have cl := compI_length (sortI l)
  constructor
  · intro h hn
    have e : compI (sortI l) = sortI l := strict_ext (compI_lt (sortI_le l)) (sortI_lt hn) (fun x => compI_mem)
    rw [e, sl] at h
    omega
  · intro hn
    rcases Nat.lt_or_ge (compI (sortI l)).length l.length with h | h
    · exact h
    · exfalso
      have e := comp_full (s := sortI l) (by omega)
      have hs := compI_lt (sortI_le l)
      rw [e] at hs
      exact hn (hp.1 (hs.imp (fun h => by omega)))

def strB (x : Int) : Bool := decide (x < 0) || decide ((52 : Int) ≤ x)

theorem containsF_p {l : List Int} (hs : l.length ≤ 17592186044416) : slices_ContainsFunc_m l = some (l.any strB) := by
  unfold slices_ContainsFunc_m slices_IndexFunc_m
  rw [search_loop (l := l) strB (fun i => Fl.ret (i : Int)) (Fl.go ()) ?_ ?_ ?_]
  · have hn := fidx_neg strB l
    unfold fidx at hn
    cases hf : l.findIdx? strB with
    | none =>
      rw [hf] at hn
      have : l.any strB = false := by
        rw [Bool.eq_false_iff]
        intro h; have := hn.2 h; simp at this
      rw [this]; rfl
    | some i =>
      rw [hf] at hn
      have : l.any strB = true := hn.1 (by simp)
      rw [this]
      simp [slices_IndexFunc_K1]
  · intro i x hx hp
    have hb := idx_bd hx
    simp only [slices_IndexFunc_L1, slices_IndexFunc_J2]
    rw [if_pos (by simpa using hb.2), asrt_pos hb, geti_some hx]
    simp only [crib_check_1_m, Option.bind_some]
    exact if_pos hp
  · intro i x hx hp
    have hb := idx_bd hx
    simp only [slices_IndexFunc_L1, slices_IndexFunc_J2]
    rw [if_pos (by simpa using hb.2), asrt_pos hb, geti_some hx]
    simp only [crib_check_1_m, Option.bind_some]
    rw [if_neg (by unfold strB at hp; rw [hp]; simp)]
    simp only [slices_IndexFunc_J3]
    rw [w64_succ (by omega)]
  · simp only [slices_IndexFunc_L1]
    rw [if_neg (by simp)]

open Classical in
/-- What is wrong with cards. -/
noncomputable def wrong (l : List Int) : Int := if l.any strB = true then 3 else if l.Nodup then 0 else 6

theorem check_p {l : List Int} (hl : l.length ≤ 17592186043904) : crib_check_m l = some (wrong l) := by
  classical
  unfold crib_check_m wrong
  rw [containsF_p (by omega), Option.bind_some]
  by_cases h : l.any strB = true
  · rw [if_pos h, if_pos h]
  · rw [if_neg h, if_neg h]
    unfold crib_check_J1 slices_Values_m slices_Sorted_m slices_Compact_2_m crib_check_J2
    rw [Option.bind_some, asrt_pos (by unfold bigN; omega), Option.bind_some, asrt_pos (by have := sortI_length l; unfold bigN; omega), Option.bind_some]
    have hd := dup_iff l
    by_cases hn : l.Nodup
    · rw [if_pos hn, if_neg (by rw [decide_eq_true_eq]; intro q; exact (hd.1 (by omega)) hn)]
    · rw [if_neg hn, if_pos (decide_eq_true (by have := hd.2 hn; omega))]

theorem at_r {l : List Int} (n : Int) (hl : l.length ≤ 17592186044416) : ∃ v, gameroomref_at_m l n = some v ∧ (0 ≤ v ↔ n ∈ l) := by
  refine ⟨fidx (fun x => x == n) l, ?_, ?_⟩
  · unfold gameroomref_at_m
    rw [search_loop (l := l) (fun x => x == n) (fun i => Fl.ret (i : Int)) (Fl.go ()) ?_ ?_ ?_]
    · unfold fidx
      cases l.findIdx? (fun x => x == n) <;> rfl
    · intro i x hx hp
      have hb := idx_bd hx
      simp only [gameroomref_at_L1, gameroomref_at_J2]
      rw [if_pos (by simpa using hb.2), asrt_pos hb, geti_some hx]
      exact if_pos hp
    · intro i x hx hp
      have hb := idx_bd hx
      simp only [gameroomref_at_L1, gameroomref_at_J2]
      rw [if_pos (by simpa using hb.2), asrt_pos hb, geti_some hx, if_neg (by simpa using hp)]
      simp only [gameroomref_at_J3]
      rw [w64_succ (by omega)]
    · simp only [gameroomref_at_L1]
      rw [if_neg (by simp)]
  · rw [fidx_neg, List.any_eq_true]
    constructor
    · rintro ⟨x, hx, h⟩
      rw [beq_iff_eq] at h
      rw [← h]; exact hx
    · intro h
      exact ⟨n, h, by simp⟩

theorem strB_in (x : Int) : strB x = !(decide (0 ≤ x) && decide (x ≤ 51)) := by
  unfold strB
  rw [Bool.eq_iff_iff]
  simp only [Bool.or_eq_true, decide_eq_true_eq, Bool.not_eq_true', Bool.and_eq_false_iff, decide_eq_false_iff_not]
  omega

theorem cards_r {l : List Int} (hl : l.length ≤ 17592186043904) : gameroomref_CardsMay_m l = some (wrong l) := by
  classical
  unfold gameroomref_CardsMay_m wrong
  rw [search_loop (l := l) strB (fun _ => Fl.ret 3) (Fl.go ()) ?_ ?_ ?_]
  · have hn := fidx_neg strB l
    unfold fidx at hn
    cases hf : l.findIdx? strB with
    | some i =>
      rw [hf] at hn
      rw [if_pos (hn.1 (by simp))]; rfl
    | none =>
      rw [hf] at hn
      rw [if_neg (fun h => by have := hn.2 h; simp at this), Option.bind_some]
      simp only [gameroomref_CardsMay_K1]
      unfold gameroomref_CardsMay_J1
      have key := count_loop (step := gameroomref_CardsMay_L2 l) (fun (_ : Unit) (i : Nat) => (i : Int)) (fun n _ => (l.take n).Nodup) (fun r => r = if l.Nodup then .go () else .ret 6) l.length () (by simp) (by
        rintro i - hi hI
        have hg := get_geti hi
        have e1 : gameroomref_CardsMay_L2 l (i : Int) = gameroomref_CardsMay_J5 l i := if_pos (decide_eq_true (by omega))
        have ec : cut l (0 : Int) (i : Int) = l.take i := by simp [cut]
        obtain ⟨v, hv, hvi⟩ := at_r (l := l.take i) (geti l i) (by rw [List.length_take]; omega)
        rw [e1]
        unfold gameroomref_CardsMay_J5 gameroomref_CardsMay_J6
        rw [asrt_pos (by omega), asrt_pos (by omega), ec, hv, Option.bind_some, w64_of (by omega)]
        by_cases h : geti l i ∈ l.take i
        · right
          refine ⟨.ret 6, by rw [if_pos (decide_eq_true (hvi.2 h))], ?_⟩
          rw [if_neg]
          intro hn
          have h2 : (l.take (i + 1)).Nodup := hn.sublist (List.take_sublist _ _)
          rw [List.take_add_one, hg, List.nodup_append] at h2
          exact h2.2.2 _ h _ (by simp) rfl
        · left
          refine ⟨(), by rw [if_neg (by rw [decide_eq_true_eq]; exact fun q => h (hvi.1 q))]; rfl, ?_⟩
          rw [List.take_add_one, hg, List.nodup_append]
          refine ⟨hI, by simp, fun x hx y hy e => ?_⟩
          simp at hy
          rw [e, hy] at hx
          exact h hx) (by
        rintro - hI
        rw [List.take_length] at hI
        exact ⟨.go (), by simp only [gameroomref_CardsMay_L2]; rw [if_neg (by simp)], by rw [if_pos hI]⟩)
      obtain ⟨r, hr, rfl⟩ := key
      have hr' : loop (gameroomref_CardsMay_L2 l) 0 = _ := hr
      rw [hr', Option.bind_some]
      by_cases h : l.Nodup
      · rw [if_pos h, if_pos h]; rfl
      · rw [if_neg h, if_neg h]; rfl
  · intro i x hx hp
    have hb := idx_bd hx
    simp only [gameroomref_CardsMay_L1, gameroomref_CardsMay_J2]
    rw [if_pos (by simpa using hb.2), asrt_pos hb, geti_some hx]
    simp only [gameroomref_within_m, Option.bind_some]
    rw [if_pos (by rw [← strB_in]; exact hp)]
  · intro i x hx hp
    have hb := idx_bd hx
    simp only [gameroomref_CardsMay_L1, gameroomref_CardsMay_J2]
    rw [if_pos (by simpa using hb.2), asrt_pos hb, geti_some hx]
    simp only [gameroomref_within_m, Option.bind_some]
    rw [if_neg (by rw [← strB_in, hp]; simp)]
    simp only [gameroomref_CardsMay_J3]
    rw [w64_succ (by omega)]
  · simp only [gameroomref_CardsMay_L1]
    rw [if_neg (by simp)]

/-- How strong a card is. -/

theorem wrong_0 {l : List Int} (h : wrong l = 0) : (∀ x ∈ l, 0 ≤ x ∧ x ≤ 51) ∧ l.Nodup := by
  classical
  unfold wrong at h
  by_cases h1 : l.any strB = true
  · rw [if_pos h1] at h; omega
  · rw [if_neg h1] at h
    by_cases h2 : l.Nodup
    · refine ⟨fun x hx => ?_, h2⟩
      have : ¬ strB x = true := fun q => h1 (List.any_eq_true.2 ⟨_, hx, q⟩)
      unfold strB at this
      simp only [Bool.or_eq_true, decide_eq_true_eq] at this
      omega
    · rw [if_neg h2] at h; omega

/-- The rank of a card, the ace 1. -/
def pf (c : Int) : Int := (c / 4 + 1) % 13 + 1
def Card (c : Int) : Prop := 0 ≤ c ∧ c ≤ 51

theorem pip_p {c : Int} (h : Card c) : crib_pip_m c = some (pf c) := by
  unfold Card at h
  unfold crib_pip_m pf
  rw [Int.tdiv_eq_ediv_of_nonneg h.1, w64_of (x := c / 4) (by omega), w64_of (x := c / 4 + 1) (by omega), Int.tmod_eq_emod_of_nonneg (by omega), w64_of (by omega)]
theorem pip_r {c : Int} (h : Card c) : gameroomref_pipOf_m c = some (pf c) := by
  unfold Card at h
  unfold gameroomref_pipOf_m gameroomref_pipOf_J1 pf
  rw [Int.tdiv_eq_ediv_of_nonneg h.1, w64_of (x := c / 4) (by omega)]
  by_cases q : c / 4 = 12
  · rw [if_pos (by simpa using q), q]; rfl
  · rw [if_neg (by simpa using q), w64_of (by omega)]; congr 1; omega
theorem pf_bd (c : Int) : 1 ≤ pf c ∧ pf c ≤ 13 := by unfold pf; omega

/-- The points of a card. -/
def pts (c : Int) : Int := if 10 < pf c then 10 else pf c
theorem pts_bd (c : Int) : 1 ≤ pts c ∧ pts c ≤ 10 := by
  have := pf_bd c
  unfold pts; split <;> omega
theorem points_p {c : Int} (h : Card c) : crib_points_m c = some (pts c) := by
  unfold crib_points_m
  rw [pip_p h, Option.bind_some]
  unfold pts minI
  rfl
theorem points_r {c : Int} (h : Card c) : gameroomref_pointsOf_m c = some (pts c) := by
  unfold gameroomref_pointsOf_m gameroomref_pointsOf_J1
  rw [pip_r h, Option.bind_some, Option.bind_some]
  unfold pts
  by_cases q : 10 < pf c
  · rw [if_pos (decide_eq_true q), if_pos q]
  · rw [if_neg (by simpa using q), if_neg q]

theorem map_take {l : List Int} {i : Nat} (h : i < l.length) : (l.take (i + 1)).map pf = (l.take i).map pf ++ [pf (geti l (i : Int))] := by
  rw [List.take_add_one, get_geti h, List.map_append]; rfl

/-! ### The ways of a row -/
def pr (f : Nat → Nat) : Nat → Nat
  | 0 => 1
  | n + 1 => pr f n * f n
theorem pr_one (f : Nat → Nat) : ∀ n, pr f n = 1 ↔ ∀ j, j < n → f j = 1
  | 0 => ⟨fun _ j h => by omega, fun _ => rfl⟩
  | n + 1 => by
    show pr f n * f n = 1 ↔ _
    have key : pr f n * f n = 1 ↔ pr f n = 1 ∧ f n = 1 :=
      ⟨fun h => ⟨Nat.eq_one_of_mul_eq_one_right h, Nat.eq_one_of_mul_eq_one_left h⟩, fun h => by rw [h.1, h.2]⟩
    rw [key, pr_one f n]
    constructor
    · rintro ⟨h1, h2⟩ j hj
      by_cases q : j = n
      · rw [q]; exact h2
      · exact h1 j (by omega)
    · intro h
      exact ⟨fun j hj => h j (by omega), h n (by omega)⟩
theorem pr_bd {f : Nat → Nat} (h : ∀ j, f j ≤ 13) : ∀ n, pr f n ≤ 13 ^ n
  | 0 => Nat.le_refl _
  | n + 1 => Nat.mul_le_mul (pr_bd h n) (h n)

theorem count_r {l : List Int} {p : Int} (hl : l.length ≤ 13) (hc : ∀ x ∈ l, Card x) : loop (gameroomref_rowWays_L2 l p) (0, 0) = some (((l.map pf).count p : Nat) : Int) := by
  refine loop_from (r := (((l.map pf).count p : Nat) : Int)) (fun i => ((((l.take i).map pf).count p : Nat), (i : Int))) l.length rfl ?_ ?_
  · intro i hi
    have hm : geti l (i : Int) ∈ l := geti_mem hi
    have hb := List.count_le_length (l := (l.take i).map pf) (a := p)
    rw [List.length_map, List.length_take] at hb
    simp only [gameroomref_rowWays_L2, gameroomref_rowWays_J5, gameroomref_rowWays_J6]
    rw [if_pos (decide_eq_true (by omega)), asrt_pos (by omega), pip_r (hc _ hm), Option.bind_some, map_take hi, List.count_append, w64_of (x := (i : Int) + 1) (by omega), List.count_singleton]
    by_cases q : pf (geti l (i : Int)) = p
    · rw [if_pos (by simpa using q), if_pos (by simpa using q), w64_of (by omega)]; rfl
    · rw [if_neg (by simpa using q), if_neg (by simpa using q)]; rfl
  · simp only [gameroomref_rowWays_L2]
    rw [if_neg (by simp), List.take_length]

theorem ways_r {l : List Int} {low : Int} {k : Nat} (hl : l.length ≤ 13) (hc : ∀ x ∈ l, Card x) (hlow : 0 ≤ low ∧ low ≤ 14) (hk : k ≤ 13) : gameroomref_rowWays_m l low k = some ((pr (fun j => (l.map pf).count (low + j)) k : Nat) : Int) := by
  have hf : ∀ j : Nat, (l.map pf).count (low + j) ≤ 13 := fun j => by
    have := List.count_le_length (l := l.map pf) (a := low + j)
    rw [List.length_map] at this; omega
  have h := loop_from (step := gameroomref_rowWays_L1 l low k) (s0 := (1, low)) (r := ((pr (fun j => (l.map pf).count (low + j)) k : Nat) : Int)) (fun i => (((pr (fun j => (l.map pf).count (low + j)) i : Nat) : Int), low + (i : Int))) k (by show (((1 : Nat) : Int), _) = _; rw [show low + ((0 : Nat) : Int) = low by omega]; rfl) (by
    intro i hi
    have b := pr_bd hf (i + 1)
    have b2 : 13 ^ (i + 1) ≤ 13 ^ 13 := Nat.pow_le_pow_right (by decide) (by omega)
    have b3 : (13 : Nat) ^ 13 = 302875106592253 := by decide
    have es : pr (fun j => (l.map pf).count (low + j)) (i + 1) = pr (fun j => (l.map pf).count (low + j)) i * (l.map pf).count (low + i) := rfl
    simp only [gameroomref_rowWays_L1, gameroomref_rowWays_J2]
    rw [w64_of (x := low + (k : Int)) (by omega), if_pos (decide_eq_true (by omega)), count_r hl hc, Option.bind_some]
    simp only [gameroomref_rowWays_K2, gameroomref_rowWays_J4, gameroomref_rowWays_J3]
    rw [← Int.natCast_mul, ← es, w64_nat (by omega), w64_of (by omega), show low + (i : Int) + 1 = low + ((i + 1 : Nat) : Int) by omega]) (by
    simp only [gameroomref_rowWays_L1]
    rw [w64_of (x := low + (k : Int)) (by omega), if_neg (by simp)])
  unfold gameroomref_rowWays_m
  rw [h]; rfl
end Go.Proofs.Ytlkdblflibgfpaa
