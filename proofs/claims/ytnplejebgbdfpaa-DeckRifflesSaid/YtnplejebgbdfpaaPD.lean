/-
  Plain laws of the deck: riffles: how often a riffle is done till all lies as at first.
-/
import Derived.Test.YtnplejebgbdfpaaND
import Derived.Test.YtnplejebgbdfpaaPA
import Derived.Test.YtnplejebgbdfpaaLibP
namespace Go.Proofs.Ytnplejebgbdfpaa
open Go Go.GL

theorem fill_step {n i : Nat} (g : Nat → Int) : (mr n (fun j => if j < i then g j else 0)).set i (g i) = mr n (fun j => if j < i + 1 then g j else 0) := by
  rw [mr_set]
  exact mr_congr fun j _ => by
    by_cases h1 : j = i
    · subst h1; simp
    · by_cases h2 : j < i
      · rw [if_neg h1, if_pos h2, if_pos (by omega)]
      · rw [if_neg h1, if_neg h2, if_neg (by omega)]
theorem fill_zero (n : Nat) (g : Nat → Int) : mr n (fun j => if j < 0 then g j else 0) = List.replicate n 0 := by
  rw [mr_rep]; exact mr_congr fun j _ => by simp
theorem fill_done (n : Nat) (g : Nat → Int) : mr n (fun j => if j < n then g j else 0) = mr n g := mr_congr fun j hj => by simp [hj]

theorem sorted_ok (n : Nat) (hn : n ≤ 104) : deck_sorted_m n = some (mr n fun j => j) := by
  have h : loop (deck_sorted_L1 n) (List.replicate (Int.toNat (n : Int)) (0 : Int), 0) = some (mr n fun j => j) := by
    refine loop_from (fun i => (mr n (fun j => if j < i then (j : Int) else 0), (i : Int))) n (by show (_, _) = (_, _); rw [fill_zero n (fun j => (j : Int))]; rfl) (fun i hi => ?_) ?_
    · simp only [deck_sorted_L1, deck_sorted_J2, deck_sorted_J3]
      rw [if_pos (by simp; omega), asrt_pos ⟨by omega, by rw [mr_length]; omega⟩, w64_of (by omega), Int.toNat_natCast, fill_step (fun j => (j : Int))]
      rfl
    · simp only [deck_sorted_L1]
      rw [if_neg (by simp), fill_done n (fun j => (j : Int))]
  unfold deck_sorted_m
  rw [asrt_pos ⟨by omega, by unfold bigN; omega⟩, h]
  rfl

/-- Two halves, one card of each in turn. -/
def il {α : Type} (b : Bool) : List α → List α → List α
  | x :: xs, y :: ys => (if b then [y, x] else [x, y]) ++ il b xs ys
  | _, _ => []

theorem il_snoc {α : Type} (b : Bool) (x y : α) : ∀ (xs ys : List α), xs.length = ys.length → il b (xs ++ [x]) (ys ++ [y]) = il b xs ys ++ (if b then [y, x] else [x, y])
  | [], [], _ => by simp [il]
  | [], _ :: _, h => by simp at h
  | _ :: _, [], h => by simp at h
  | a :: xs, c :: ys, h => by
    simp only [List.cons_append, il]
    rw [il_snoc b x y xs ys (by simpa using h), List.append_assoc]

theorem il_map {α β : Type} (f : α → β) (b : Bool) : ∀ (xs ys : List α), (il b xs ys).map f = il b (xs.map f) (ys.map f)
  | [], _ => by simp [il]
  | _ :: _, [] => by simp [il]
  | a :: xs, c :: ys => by
    simp only [List.map_cons, il, List.map_append, il_map f b xs ys]
    cases b <;> simp

theorem il_length {α : Type} (b : Bool) : ∀ (xs ys : List α), xs.length = ys.length → (il b xs ys).length = 2 * xs.length
  | [], [], _ => rfl
  | [], _ :: _, h => by simp at h
  | _ :: _, [], h => by simp at h
  | a :: xs, c :: ys, h => by
    simp only [il, List.length_append, il_length b xs ys (by simpa using h), List.length_cons]
    cases b <;> simp <;> omega

def rif {α : Type} (h : Nat) (b : Bool) (l : List α) : List α := il b (l.take h) (l.drop h)

theorem take_snoc {l : List Int} {i : Nat} (h : i < l.length) : l.take (i + 1) = l.take i ++ [geti l i] := by
  rw [List.take_succ_eq_append_getElem h, geti_nat, List.getD_eq_getElem?_getD, List.getElem?_eq_getElem h]
  rfl

theorem half (h : Nat) (hh : h ≤ 52) : w64 (Int.tdiv ((2 * h : Nat) : Int) 2) = (h : Int) := by
  rw [show Int.tdiv ((2 * h : Nat) : Int) 2 = (h : Int) by rw [Int.tdiv_eq_ediv_of_nonneg (by omega)]; omega]
  exact w64_of (by omega)

theorem riffle_ok (h : Nat) (hh : h ≤ 52) (b : Bool) (l : List Int) (hl : l.length = 2 * h) : deck_riffle_m l b = some (rif h b l) := by
  have hk : (l.length : Int) = ((2 * h : Nat) : Int) := by rw [hl]
  have key : loop (deck_riffle_L1 l b) (([] : List Int), 0) = some (rif h b l) := by
    refine loop_from (fun i => (il b (l.take i) ((l.drop h).take i), (i : Int))) h (by simp [il]) (fun i hi => ?_) ?_
    · simp only [deck_riffle_L1, deck_riffle_J2, deck_riffle_J3]
      rw [hk, half h hh]
      have e1 : w64 ((h : Int) + i) = ((h + i : Nat) : Int) := by rw [w64_of (by omega)]; omega
      have e2 : w64 ((i : Int) + 1) = ((i + 1 : Nat) : Int) := by rw [w64_of (by omega)]; omega
      have hlen : (il b (l.take i) ((l.drop h).take i)).length = 2 * i := by rw [il_length b _ _ (by simp; omega)]; simp; omega
      have e3 : (l.drop h).take (i + 1) = (l.drop h).take i ++ [geti l ((h + i : Nat) : Int)] := by
        rw [take_snoc (by simp; omega), geti_nat, geti_nat]
        simp [List.getD_eq_getElem?_getD]
      have e4 := take_snoc (l := l) (i := i) (by omega)
      have e5 : il b (l.take (i + 1)) ((l.drop h).take (i + 1)) = il b (l.take i) ((l.drop h).take i) ++ (if b then [geti l ((h + i : Nat) : Int), geti l i] else [geti l i, geti l ((h + i : Nat) : Int)]) := by
        rw [e3, e4, il_snoc b _ _ _ _ (by simp; omega)]
      rw [if_pos (by simp; omega), e1, e2, hlen, e5]
      cases b
      · simp only [Bool.false_eq_true, if_false]
        rw [asrt_pos ⟨by omega, by omega⟩, asrt_pos ⟨by omega, by omega⟩, asrt_pos (by unfold bigN; simp; omega)]
      · simp only [if_true]
        rw [asrt_pos ⟨by omega, by omega⟩, asrt_pos ⟨by omega, by omega⟩, asrt_pos (by unfold bigN; simp; omega)]
    · simp only [deck_riffle_L1]
      rw [hk, half h hh, if_neg (by simp)]
      unfold rif
      rw [List.take_of_length_le (l := l.drop h) (by simp; omega)]
  unfold deck_riffle_m
  rw [asrt_pos ⟨by omega, by unfold bigN; omega⟩, key]
  rfl

theorem equal_ok (l m : List Int) (hl : l.length = m.length) (hb : l.length ≤ 104) : slices_Equal_m l m = some (decide (l = m)) := by
  unfold slices_Equal_m
  rw [if_neg (by simp [hl])]
  unfold slices_Equal_J1
  by_cases h : l = m
  · subst h
    have key : loop (slices_Equal_L1 l l) 0 = some (.go ()) := by
      refine loop_from (fun i => (i : Int)) l.length rfl (fun i hi => ?_) ?_
      · simp only [slices_Equal_L1, slices_Equal_J3, slices_Equal_J4]
        rw [if_pos (by simp; omega), asrt_pos ⟨by omega, by omega⟩, asrt_pos ⟨by omega, by omega⟩, if_neg (by simp), w64_of (by omega)]
        rfl
      · simp only [slices_Equal_L1]
        rw [if_neg (by simp)]
    rw [key]
    simp [slices_Equal_K1, slices_Equal_J2]
  · -- the first place at which they part
    have hx : ∃ i, i < l.length ∧ l.getD i 0 ≠ m.getD i 0 := by
      apply Classical.byContradiction
      intro hn
      apply h
      rw [mr_self l, mr_self m, hl]
      exact mr_congr fun j hj => by
        apply Classical.byContradiction
        intro hne
        exact hn ⟨j, by omega, hne⟩
    obtain ⟨k, ⟨hk, hne⟩, hmin⟩ := exists_least hx
    have key : loop (slices_Equal_L1 l m) 0 = some (.ret false) := by
      refine loop_from (fun i => (i : Int)) k rfl (fun i hi => ?_) ?_
      · have he : l.getD i 0 = m.getD i 0 := by
          apply Classical.byContradiction
          intro hne
          have := hmin i ⟨by omega, hne⟩
          omega
        simp only [slices_Equal_L1, slices_Equal_J3, slices_Equal_J4]
        rw [if_pos (by simp; omega), asrt_pos ⟨by omega, by omega⟩, asrt_pos ⟨by omega, by omega⟩, geti_nat, geti_nat, he, if_neg (by simp), w64_of (by omega)]
        rfl
      · simp only [slices_Equal_L1, slices_Equal_J3, slices_Equal_J4]
        rw [if_pos (by simp; omega), asrt_pos ⟨by omega, by omega⟩, asrt_pos ⟨by omega, by omega⟩, geti_nat, geti_nat, if_pos (by simpa using hne)]
    rw [key]
    simp [slices_Equal_K1, h]

/-- Where the card of place j comes from. -/
def src (h : Nat) (b : Bool) (j : Nat) : Nat := if decide (j % 2 = 0) = b then h + j / 2 else j / 2

theorem il_get {b : Bool} : ∀ (xs ys : List Int) (j : Nat), xs.length = ys.length → (il b xs ys)[j]? = if decide (j % 2 = 0) = b then ys[j / 2]? else xs[j / 2]?
  | [], [], j, _ => by simp [il]
  | [], _ :: _, _, h => by simp at h
  | _ :: _, [], _, h => by simp at h
  | x :: xs, y :: ys, j, h => by
    match j with
    | 0 => cases b <;> simp [il]
    | 1 => cases b <;> simp [il]
    | j + 2 =>
      have e1 : (j + 2) / 2 = j / 2 + 1 := by omega
      have e2 : (j + 2) % 2 = j % 2 := by omega
      have ih := il_get (b := b) xs ys j (by simpa using h)
      rw [e1, e2]
      simp only [il, List.getElem?_cons_succ]
      rw [← ih]
      cases b <;> simp

theorem rif_mr (h : Nat) (b : Bool) (l : List Int) (hl : l.length = 2 * h) : rif h b l = mr (2 * h) (fun j => l.getD (src h b j) 0) := by
  have hlen : (rif h b l).length = 2 * h := by unfold rif; rw [il_length b _ _ (by simp; omega)]; simp; omega
  apply List.ext_getElem?
  intro j
  by_cases hj : j < 2 * h
  · rw [mr_get hj]
    unfold rif
    rw [il_get _ _ _ (by simp; omega)]
    unfold src
    split
    · rw [List.getElem?_drop, List.getD_eq_getElem?_getD, List.getElem?_eq_getElem (by omega)]; rfl
    · rw [List.getElem?_take, if_pos (by omega), List.getD_eq_getElem?_getD, List.getElem?_eq_getElem (by omega)]; rfl
  · rw [List.getElem?_eq_none (by omega), List.getElem?_eq_none (by rw [mr_length]; omega)]

theorem src_lt {h j : Nat} {b : Bool} (hj : j < 2 * h) : src h b j < 2 * h := by unfold src; split <;> omega

theorem bx : ∀ x : Fin 105, bXor (x.val : Int) 1 = if x.val % 2 = 0 then (x.val : Int) + 1 else (x.val : Int) - 1 := by decide +kernel
theorem ba : ∀ x : Fin 105, bAnd (x.val : Int) 1 = ((x.val % 2 : Nat) : Int) := by decide +kernel

def to (h : Nat) (b : Bool) (i : Nat) : Nat := if h ≤ i then (if b then 2 * (i - h) else 2 * (i - h) + 1) else (if b then 2 * i + 1 else 2 * i)

theorem to_lt {h i : Nat} {b : Bool} (hi : i < 2 * h) : to h b i < 2 * h := by unfold to; split <;> split <;> omega
theorem src_to {h i j : Nat} {b : Bool} (_ : i < 2 * h) (hj : j < 2 * h) : src h b j = i ↔ j = to h b i := by
  unfold src to
  cases b <;> by_cases hji : j % 2 = 0 <;> by_cases hhi : h ≤ i <;> simp [hji, hhi] <;> omega

theorem riffleOf_ok (h : Nat) (hh : h ≤ 52) (b : Bool) (l : List Int) (hl : l.length = 2 * h) : gameroomref_RiffleOf_m l b = some (rif h b l) := by
  have hk : (l.length : Int) = ((2 * h : Nat) : Int) := by rw [hl]
  have key : loop (gameroomref_RiffleOf_L1 l b) ((List.replicate (Int.toNat (l.length : Int)) (0 : Int)), 0) = some (rif h b l) := by
    refine loop_from (fun i => (mr (2 * h) (fun j => if src h b j < i then l.getD (src h b j) 0 else 0), (i : Int))) (2 * h) ?_ (fun i hi => ?_) ?_
    · rw [Int.toNat_natCast, hl, mr_rep]
      show (_, _) = (_, _)
      simp
    · have e2 : w64 ((i : Int) + 1) = ((i + 1 : Nat) : Int) := by rw [w64_of (by omega)]; omega
      have fin : ∀ t : Int, t = (to h b i : Nat) → gameroomref_RiffleOf_J5 l (mr (2 * h) (fun j => if src h b j < i then l.getD (src h b j) 0 else 0)) i t =
          some (.next (mr (2 * h) (fun j => if src h b j < i + 1 then l.getD (src h b j) 0 else 0), ((i + 1 : Nat) : Int))) := by
        intro t ht
        have htl := to_lt (b := b) hi
        unfold gameroomref_RiffleOf_J5 gameroomref_RiffleOf_J3
        rw [asrt_pos ⟨by omega, by omega⟩, asrt_pos ⟨by omega, by rw [mr_length]; omega⟩, e2, ht, Int.toNat_natCast, mr_set, geti_nat]
        congr 3
        exact mr_congr fun j hj => by
          by_cases h1 : j = to h b i
          · have := (src_to hi hj).2 h1
            rw [if_pos h1, this, if_pos (by omega)]
          · have : src h b j ≠ i := fun he => h1 ((src_to hi hj).1 he)
            rw [if_neg h1]
            by_cases h2 : src h b j < i
            · rw [if_pos h2, if_pos (by omega)]
            · rw [if_neg h2, if_neg (by omega)]
      simp only [gameroomref_RiffleOf_L1, gameroomref_RiffleOf_J2, gameroomref_RiffleOf_J4]
      rw [hk, half h hh, if_pos (by simp; omega)]
      by_cases hhi : h ≤ i
      · have e3 : w64 ((w64 (2 * (w64 ((i : Int) - (h : Int))))) + 1) = ((2 * (i - h) + 1 : Nat) : Int) := by
          rw [w64_of (x := (i : Int) - h) (by omega), w64_of (x := 2 * ((i : Int) - h)) (by omega), w64_of (by omega)]; omega
        rw [if_pos (by simpa using hhi), e3]
        cases b
        · simp only [Bool.false_eq_true, if_false]
          exact fin _ (by unfold to; rw [if_pos hhi]; simp)
        · simp only [if_true]
          have := bx ⟨2 * (i - h) + 1, by omega⟩
          simp only at this
          rw [this, if_neg (by omega)]
          exact fin _ (by unfold to; rw [if_pos hhi]; simp)
      · have e3 : w64 (2 * (i : Int)) = ((2 * i : Nat) : Int) := by rw [w64_of (by omega)]; omega
        rw [if_neg (by simpa using hhi), e3]
        cases b
        · simp only [Bool.false_eq_true, if_false]
          exact fin _ (by unfold to; rw [if_neg hhi]; simp)
        · simp only [if_true]
          have := bx ⟨2 * i, by omega⟩
          simp only at this
          rw [this, if_pos (by omega)]
          exact fin _ (by unfold to; rw [if_neg hhi]; simp)
    · simp only [gameroomref_RiffleOf_L1]
      rw [hk, if_neg (by simp), rif_mr h b l hl]
      congr 2
      exact mr_congr fun j hj => by rw [if_pos (src_lt hj)]
  unfold gameroomref_RiffleOf_m
  rw [asrt_pos ⟨by omega, by unfold bigN; omega⟩, key]
  rfl

end Go.Proofs.Ytnplejebgbdfpaa
