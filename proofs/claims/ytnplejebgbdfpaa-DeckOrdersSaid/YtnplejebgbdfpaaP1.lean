/-
  DeckOrders: the plain law: how often a riffle is done till all lies as at first.
-/
import Derived.Test.YtnplejebgbdfpaaM1
import Derived.Test.YtnplejebgbdfpaaLibP
namespace Go.Proofs.Ytnplejebgbdfpaa
open Go Go.GL

theorem fill_step {n i : Nat} (g : Nat → Int) : (mr n (fun j => if j < i then g j else 0)).set i (g i) = mr n (fun j => if j < i + 1 then g j else 0) := by
  rw [mr_set]
  exact mr_congr fun j _ => by
    by_cases h1 : j = i
    · subst h1; simp
    · by_cases h2 : j < i
      · rw [if_neg h1, if_pos h2, if_pos (by omega)]
      · rw [if_neg h1, if_neg h2, if_neg (by omega)]
theorem fill_zero (n : Nat) (g : Nat → Int) : mr n (fun j => if j < 0 then g j else 0) = List.replicate n 0 := by
  rw [mr_rep]; exact mr_congr fun j _ => by simp
theorem fill_done (n : Nat) (g : Nat → Int) : mr n (fun j => if j < n then g j else 0) = mr n g := mr_congr fun j hj => by simp [hj]

theorem sorted_ok (n : Nat) (hn : n ≤ 104) : deck_sorted_m n = some (mr n fun j => j) := by
  have h : loop (deck_sorted_L1 n) (List.replicate (Int.toNat (n : Int)) (0 : Int), 0) = some (mr n fun j => j) := by
    refine loop_from (fun i => (mr n (fun j => if j < i then (j : Int) else 0), (i : Int))) n (by show (_, _) = (_, _); rw [fill_zero n (fun j => (j : Int))]; rfl) (fun i hi => ?_) ?_
    · simp only [deck_sorted_L1, deck_sorted_J2, deck_sorted_J3]
      rw [if_pos (by simp; omega), asrt_pos ⟨by omega, by rw [mr_length]; omega⟩, w64_of (by omega), Int.toNat_natCast, fill_step (fun j => (j : Int))]
      rfl
    · simp only [deck_sorted_L1]
      rw [if_neg (by simp), fill_done n (fun j => (j : Int))]
  unfold deck_sorted_m
  rw [asrt_pos ⟨by omega, by unfold bigN; omega⟩, h]
  rfl

/-- Two halves, one card of each in turn. -/
def il {α : Type} (b : Bool) : List α → List α → List α
  | x :: xs, y :: ys => (if b then [y, x] else [x, y]) ++ il b xs ys
  | _, _ => []

theorem il_snoc {α : Type} (b : Bool) (x y : α) : ∀ (xs ys : List α), xs.length = ys.length → il b (xs ++ [x]) (ys ++ [y]) = il b xs ys ++ (if b then [y, x] else [x, y])
  | [], [], _ => by simp [il]
  | [], _ :: _, h => by simp at h
  | _ :: _, [], h => by simp at h
  | a :: xs, c :: ys, h => by
    simp only [List.cons_append, il]
    rw [il_snoc b x y xs ys (by simpa using h), List.append_assoc]

theorem il_map {α β : Type} (f : α → β) (b : Bool) : ∀ (xs ys : List α), (il b xs ys).map f = il b (xs.map f) (ys.map f)
  | [], _ => by simp [il]
  | _ :: _, [] => by simp [il]
  | a :: xs, c :: ys => by
    simp only [List.map_cons, il, List.map_append, il_map f b xs ys]
    cases b <;> simp

theorem il_length {α : Type} (b : Bool) : ∀ (xs ys : List α), xs.length = ys.length → (il b xs ys).length = 2 * xs.length
  | [], [], _ => rfl
  | [], _ :: _, h => by simp at h
  | _ :: _, [], h => by simp at h
  | a :: xs, c :: ys, h => by
    simp only [il, List.length_append, il_length b xs ys (by simpa using h), List.length_cons]
    cases b <;> simp <;> omega

def rif {α : Type} (h : Nat) (b : Bool) (l : List α) : List α := il b (l.take h) (l.drop h)

theorem take_snoc {l : List Int} {i : Nat} (h : i < l.length) : l.take (i + 1) = l.take i ++ [geti l i] := by
  rw [List.take_succ_eq_append_getElem h, geti_nat, List.getD_eq_getElem?_getD, List.getElem?_eq_getElem h]
  rfl

theorem half (h : Nat) (hh : h ≤ 52) : w64 (Int.tdiv ((2 * h : Nat) : Int) 2) = (h : Int) := by
  rw [show Int.tdiv ((2 * h : Nat) : Int) 2 = (h : Int) by rw [Int.tdiv_eq_ediv_of_nonneg (by omega)]; omega]
  exact w64_of (by omega)

theorem riffle_ok (h : Nat) (hh : h ≤ 52) (b : Bool) (l : List Int) (hl : l.length = 2 * h) : deck_riffle_m l b = some (rif h b l) := by
  have hk : (l.length : Int) = ((2 * h : Nat) : Int) := by rw [hl]
  have key : loop (deck_riffle_L1 l b) (([] : List Int), 0) = some (rif h b l) := by
    refine loop_from (fun i => (il b (l.take i) ((l.drop h).take i), (i : Int))) h (by simp [il]) (fun i hi => ?_) ?_
    · simp only [deck_riffle_L1, deck_riffle_J2, deck_riffle_J3]
      rw [hk, half h hh]
      have e1 : w64 ((h : Int) + i) = ((h + i : Nat) : Int) := by rw [w64_of (by omega)]; omega
      have e2 : w64 ((i : Int) + 1) = ((i + 1 : Nat) : Int) := by rw [w64_of (by omega)]; omega
      have hlen : (il b (l.take i) ((l.drop h).take i)).length = 2 * i := by rw [il_length b _ _ (by simp; omega)]; simp; omega
      have e3 : (l.drop h).take (i + 1) = (l.drop h).take i ++ [geti l ((h + i : Nat) : Int)] := by
        rw [take_snoc (by simp; omega), geti_nat, geti_nat]
        simp [List.getD_eq_getElem?_getD]
      have e4 := take_snoc (l := l) (i := i) (by omega)
      have e5 : il b (l.take (i + 1)) ((l.drop h).take (i + 1)) = il b (l.take i) ((l.drop h).take i) ++ (if b then [geti l ((h + i : Nat) : Int), geti l i] else [geti l i, geti l ((h + i : Nat) : Int)]) := by
        rw [e3, e4, il_snoc b _ _ _ _ (by simp; omega)]
      rw [if_pos (by simp; omega), e1, e2, hlen, e5]
      cases b
      · simp only [Bool.false_eq_true, if_false]
        rw [asrt_pos ⟨by omega, by omega⟩, asrt_pos ⟨by omega, by omega⟩, asrt_pos (by unfold bigN; simp; omega)]
      · simp only [if_true]
        rw [asrt_pos ⟨by omega, by omega⟩, asrt_pos ⟨by omega, by omega⟩, asrt_pos (by unfold bigN; simp; omega)]
    · simp only [deck_riffle_L1]
      rw [hk, half h hh, if_neg (by simp)]
      unfold rif
      rw [List.take_of_length_le (l := l.drop h) (by simp; omega)]
  unfold deck_riffle_m
  rw [asrt_pos ⟨by omega, by unfold bigN; omega⟩, key]
  rfl

theorem equal_ok (l m : List Int) (hl : l.length = m.length) (hb : l.length ≤ 104) : slices_Equal_m l m = some (decide (l = m)) := by
  unfold slices_Equal_m
  rw [if_neg (by simp [hl])]
  unfold slices_Equal_J1
  by_cases h : l = m
  · subst h
    have key : loop (slices_Equal_L1 l l) 0 = some (.go ()) := by
      refine loop_from (fun i => (i : Int)) l.length rfl (fun i hi => ?_) ?_
      · simp only [slices_Equal_L1, slices_Equal_J3, slices_Equal_J4]
        rw [if_pos (by simp; omega), asrt_pos ⟨by omega, by omega⟩, asrt_pos ⟨by omega, by omega⟩, if_neg (by simp), w64_of (by omega)]
        rfl
      · simp only [slices_Equal_L1]
        rw [if_neg (by simp)]
    rw [key]
    simp [slices_Equal_K1, slices_Equal_J2]
  · -- the first place at which they part
    have hx : ∃ i, i < l.length ∧ l.getD i 0 ≠ m.getD i 0 := by
      apply Classical.byContradiction
      intro hn
      apply h
      rw [mr_self l, mr_self m, hl]
      exact mr_congr fun j hj => by
        apply Classical.byContradiction
        intro hne
        exact hn ⟨j, by omega, hne⟩
    obtain ⟨k, ⟨hk, hne⟩, hmin⟩ := exists_least hx
    have key : loop (slices_Equal_L1 l m) 0 = some (.ret false) := by
      refine loop_from (fun i => (i : Int)) k rfl (fun i hi => ?_) ?_
      · have he : l.getD i 0 = m.getD i 0 := by
          apply Classical.byContradiction
          intro hne
          have := hmin i ⟨by omega, hne⟩
          omega
        simp only [slices_Equal_L1, slices_Equal_J3, slices_Equal_J4]
        rw [if_pos (by simp; omega), asrt_pos ⟨by omega, by omega⟩, asrt_pos ⟨by omega, by omega⟩, geti_nat, geti_nat, he, if_neg (by simp), w64_of (by omega)]
        rfl
      · simp only [slices_Equal_L1, slices_Equal_J3, slices_Equal_J4]
        rw [if_pos (by simp; omega), asrt_pos ⟨by omega, by omega⟩, asrt_pos ⟨by omega, by omega⟩, geti_nat, geti_nat, if_pos (by simpa using hne)]
    rw [key]
    simp [slices_Equal_K1, h]

/-- Where the card of place j comes from. -/
def src (h : Nat) (b : Bool) (j : Nat) : Nat := if decide (j % 2 = 0) = b then h + j / 2 else j / 2

theorem il_get {b : Bool} : ∀ (xs ys : List Int) (j : Nat), xs.length = ys.length → (il b xs ys)[j]? = if decide (j % 2 = 0) = b then ys[j / 2]? else xs[j / 2]?
  | [], [], j, _ => by simp [il]
  | [], _ :: _, _, h => by simp at h
  | _ :: _, [], _, h => by simp at h
  | x :: xs, y :: ys, j, h => by
    match j with
    | 0 => cases b <;> simp [il]
    | 1 => cases b <;> simp [il]
    | j + 2 =>
      have e1 : (j + 2) / 2 = j / 2 + 1 := by omega
      have e2 : (j + 2) % 2 = j % 2 := by omega
      have ih := il_get (b := b) xs ys j (by simpa using h)
      rw [e1, e2]
      simp only [il, List.getElem?_cons_succ]
      rw [← ih]
      cases b <;> simp

theorem rif_mr (h : Nat) (b : Bool) (l : List Int) (hl : l.length = 2 * h) : rif h b l = mr (2 * h) (fun j => l.getD (src h b j) 0) := by
  have hlen : (rif h b l).length = 2 * h := by unfold rif; rw [il_length b _ _ (by simp; omega)]; simp; omega
  apply List.ext_getElem?
  intro j
  by_cases hj : j < 2 * h
  · rw [mr_get hj]
    unfold rif
    rw [il_get _ _ _ (by simp; omega)]
    unfold src
    split
    · rw [List.getElem?_drop, List.getD_eq_getElem?_getD, List.getElem?_eq_getElem (by omega)]; rfl
    · rw [List.getElem?_take, if_pos (by omega), List.getD_eq_getElem?_getD, List.getElem?_eq_getElem (by omega)]; rfl
  · rw [List.getElem?_eq_none (by omega), List.getElem?_eq_none (by rw [mr_length]; omega)]

theorem src_lt {h j : Nat} {b : Bool} (hj : j < 2 * h) : src h b j < 2 * h := by unfold src; split <;> omega

theorem bx : ∀ x : Fin 105, bXor (x.val : Int) 1 = if x.val % 2 = 0 then (x.val : Int) + 1 else (x.val : Int) - 1 := by decide +kernel
theorem ba : ∀ x : Fin 105, bAnd (x.val : Int) 1 = ((x.val % 2 : Nat) : Int) := by decide +kernel

def to (h : Nat) (b : Bool) (i : Nat) : Nat := if h ≤ i then (if b then 2 * (i - h) else 2 * (i - h) + 1) else (if b then 2 * i + 1 else 2 * i)

theorem to_lt {h i : Nat} {b : Bool} (hi : i < 2 * h) : to h b i < 2 * h := by unfold to; split <;> split <;> omega
theorem src_to {h i j : Nat} {b : Bool} (_ : i < 2 * h) (hj : j < 2 * h) : src h b j = i ↔ j = to h b i := by
  unfold src to
  cases b <;> by_cases hji : j % 2 = 0 <;> by_cases hhi : h ≤ i <;> simp [hji, hhi] <;> omega

theorem riffleOf_ok (h : Nat) (hh : h ≤ 52) (b : Bool) (l : List Int) (hl : l.length = 2 * h) : gameroomref_RiffleOf_m l b = some (rif h b l) := by
  have hk : (l.length : Int) = ((2 * h : Nat) : Int) := by rw [hl]
  have key : loop (gameroomref_RiffleOf_L1 l b) ((List.replicate (Int.toNat (l.length : Int)) (0 : Int)), 0) = some (rif h b l) := by
    refine loop_from (fun i => (mr (2 * h) (fun j => if src h b j < i then l.getD (src h b j) 0 else 0), (i : Int))) (2 * h) ?_ (fun i hi => ?_) ?_
    · rw [Int.toNat_natCast, hl, mr_rep]
      show (_, _) = (_, _)
      simp
    · have e2 : w64 ((i : Int) + 1) = ((i + 1 : Nat) : Int) := by rw [w64_of (by omega)]; omega
      have fin : ∀ t : Int, t = (to h b i : Nat) → gameroomref_RiffleOf_J5 l (mr (2 * h) (fun j => if src h b j < i then l.getD (src h b j) 0 else 0)) i t =
          some (.next (mr (2 * h) (fun j => if src h b j < i + 1 then l.getD (src h b j) 0 else 0), ((i + 1 : Nat) : Int))) := by
        intro t ht
        have htl := to_lt (b := b) hi
        unfold gameroomref_RiffleOf_J5 gameroomref_RiffleOf_J3
        rw [asrt_pos ⟨by omega, by omega⟩, asrt_pos ⟨by omega, by rw [mr_length]; omega⟩, e2, ht, Int.toNat_natCast, mr_set, geti_nat]
        congr 3
        exact mr_congr fun j hj => by
          by_cases h1 : j = to h b i
          · have := (src_to hi hj).2 h1
            rw [if_pos h1, this, if_pos (by omega)]
          · have : src h b j ≠ i := fun he => h1 ((src_to hi hj).1 he)
            rw [if_neg h1]
            by_cases h2 : src h b j < i
            · rw [if_pos h2, if_pos (by omega)]
            · rw [if_neg h2, if_neg (by omega)]
      simp only [gameroomref_RiffleOf_L1, gameroomref_RiffleOf_J2, gameroomref_RiffleOf_J4]
      rw [hk, half h hh, if_pos (by simp; omega)]
      by_cases hhi : h ≤ i
      · have e3 : w64 ((w64 (2 * (w64 ((i : Int) - (h : Int))))) + 1) = ((2 * (i - h) + 1 : Nat) : Int) := by
          rw [w64_of (x := (i : Int) - h) (by omega), w64_of (x := 2 * ((i : Int) - h)) (by omega), w64_of (by omega)]; omega
        rw [if_pos (by simpa using hhi), e3]
        cases b
        · simp only [Bool.false_eq_true, if_false]
          exact fin _ (by unfold to; rw [if_pos hhi]; simp)
        · simp only [if_true]
          have := bx ⟨2 * (i - h) + 1, by omega⟩
          simp only at this
          rw [this, if_neg (by omega)]
          exact fin _ (by unfold to; rw [if_pos hhi]; simp)
      · have e3 : w64 (2 * (i : Int)) = ((2 * i : Nat) : Int) := by rw [w64_of (by omega)]; omega
        rw [if_neg (by simpa using hhi), e3]
        cases b
        · simp only [Bool.false_eq_true, if_false]
          exact fin _ (by unfold to; rw [if_neg hhi]; simp)
        · simp only [if_true]
          have := bx ⟨2 * i, by omega⟩
          simp only at this
          rw [this, if_pos (by omega)]
          exact fin _ (by unfold to; rw [if_neg hhi]; simp)
    · simp only [gameroomref_RiffleOf_L1]
      rw [hk, if_neg (by simp), rif_mr h b l hl]
      congr 2
      exact mr_congr fun j hj => by rw [if_pos (src_lt hj)]
  unfold gameroomref_RiffleOf_m
  rw [asrt_pos ⟨by omega, by unfold bigN; omega⟩, key]
  rfl

/-! ### What is reckoned -/
def cyc (h : Nat) (b : Bool) (i : Nat) : Nat → Nat → Nat → Option Nat
  | 0, _, _ => none
  | f + 1, x, k => if x = i then some k else cyc h b i f (src h b x) (k + 1)

def lcs (all k : Nat) : Nat → Nat → Option Nat
  | 0, _ => none
  | f + 1, m => if m % k = 0 then some m else lcs all k f (m + all)

def allL (h : Nat) (b : Bool) : List Nat → Nat → Option Nat
  | [], all => some all
  | i :: r, all => if 1000 < all then none else match cyc h b i 200 (src h b i) 1 with
    | none => none
    | some c => if c = 0 then none else match lcs all c 200 all with
      | none => none
      | some m => allL h b r m

def ordN (h : Nat) (b : Bool) : Nat → List Nat → Nat → Option Nat
  | 0, _, _ => none
  | f + 1, l, k => if l = List.range (2 * h) then some k else ordN h b f (rif h b l) (k + 1)

def chk (h : Nat) (b : Bool) : Bool := match ordN h b 200 (rif h b (List.range (2 * h))) 1, allL h b (List.range (2 * h)) 1 with
  | some k, some m => k == m
  | _, _ => false

theorem all_chk : ((List.range 53).all fun h => chk h false && chk h true) = true := by decide +kernel

theorem cyc_loop {h i : Nat} {b : Bool} : ∀ (f x k c : Nat), cyc h b i f x k = some c → x < 2 * h → k + f ≤ 1000 → h ≤ 52 → loopN (gameroomref_RiffleOrder_L3 (mr (2 * h) (fun j => (src h b j : Int))) i) f ((k : Int), (x : Int)) = some (c : Int)
  | 0, _, _, _, he, _, _, _ => by simp [cyc] at he
  | f + 1, x, k, c, he, hx, hk, hh => by
    unfold cyc at he
    simp only [loopN, gameroomref_RiffleOrder_L3, gameroomref_RiffleOrder_J8]
    by_cases hxi : x = i
    · rw [if_pos hxi] at he
      simp at he
      subst he; subst hxi
      simp
    · rw [if_neg hxi] at he
      have := cyc_loop f _ _ c he (src_lt hx) (by omega) hh
      rw [if_pos (by simp; omega), asrt_pos ⟨by omega, by rw [mr_length]; omega⟩, w64_of (by omega), mr_geti hx]
      simpa using this

theorem lcs_loop {all k : Nat} (hk : 0 < k) (ha : all ≤ 1000) : ∀ (f m r : Nat), lcs all k f m = some r → m + f * 1000 ≤ 1000000 → loopN (gameroomref_RiffleOrder_L4 all k) f (m : Int) = some (r : Int)
  | 0, _, _, he, _ => by simp [lcs] at he
  | f + 1, m, r, he, hb => by
    unfold lcs at he
    simp only [loopN, gameroomref_RiffleOrder_L4, gameroomref_RiffleOrder_J10]
    have e : Int.tmod (m : Int) (k : Int) = ((m % k : Nat) : Int) := by rw [Int.tmod_eq_emod_of_nonneg (by omega)]; omega
    rw [asrt_pos (by omega), e]
    by_cases hz : m % k = 0
    · rw [if_pos hz] at he
      simp at he
      subst he
      rw [if_neg (by simp [hz])]
    · rw [if_neg hz] at he
      have := lcs_loop hk ha f _ r he (by omega)
      rw [if_pos (by simp; omega), w64_of (by omega)]
      simpa using this

theorem allL_loop {h : Nat} {b : Bool} (hh : h ≤ 52) : ∀ (d i all m : Nat), i + d = 2 * h → allL h b (List.range' i d) all = some m →
    loopN (gameroomref_RiffleOrder_L2 ((2 * h : Nat) : Int) (mr (2 * h) (fun j => (src h b j : Int)))) (d + 1) ((all : Int), (i : Int)) = some (m : Int)
  | 0, i, all, m, hi, he => by
    simp [allL] at he
    subst he
    simp only [loopN, gameroomref_RiffleOrder_L2]
    rw [if_neg (by simp; omega)]
  | d + 1, i, all, m, hi, he => by
    rw [List.range'_succ] at he
    unfold allL at he
    split at he
    · simp at he
    · rename_i hal
      split at he
      · simp at he
      · rename_i c hc
        split at he
        · simp at he
        · rename_i hc0
          split at he
          · simp at he
          · rename_i m' hm'
            have ih := allL_loop hh d (i + 1) m' m (by omega) he
            have hx : i < 2 * h := by omega
            have h3 := loop_of (cyc_loop 200 _ _ c hc (src_lt hx) (by omega) hh)
            have h4 := loop_of (lcs_loop (k := c) (by omega) (by omega) 200 all m' hm' (by omega))
            rw [loopN]
            simp only [gameroomref_RiffleOrder_L2, gameroomref_RiffleOrder_J5]
            rw [if_pos (by simp; omega), asrt_pos ⟨by omega, by rw [mr_length]; omega⟩, mr_geti hx]
            rw [show ((1 : Nat) : Int) = 1 from rfl] at h3
            rw [h3]
            simp only [Option.bind_some, gameroomref_RiffleOrder_K3, gameroomref_RiffleOrder_J7]
            rw [h4]
            simp only [Option.bind_some, gameroomref_RiffleOrder_K4, gameroomref_RiffleOrder_J9, gameroomref_RiffleOrder_J6]
            rw [w64_of (by omega)]
            simpa using ih

theorem map_range (n : Nat) : (List.range n).map (fun (j : Nat) => (j : Int)) = mr n (fun j => (j : Int)) := rfl

theorem ord_loop {h : Nat} {b : Bool} (hh : h ≤ 52) : ∀ (f : Nat) (l : List Nat) (k r : Nat), ordN h b f l k = some r → l.length = 2 * h → k + f ≤ 1000 →
    loopN (deck_Order_L1 b (mr (2 * h) (fun j => (j : Int)))) f (l.map (fun (j : Nat) => (j : Int)), (k : Int)) = some (r : Int)
  | 0, _, _, _, he, _, _ => by simp [ordN] at he
  | f + 1, l, k, r, he, hl, hb => by
    unfold ordN at he
    simp only [loopN, deck_Order_L1, deck_Order_J3, deck_Order_J4]
    rw [equal_ok _ _ (by rw [mr_length]; simpa using hl) (by simp [hl]; omega)]
    have hinj : (l.map (fun (j : Nat) => (j : Int)) = mr (2 * h) (fun j => (j : Int))) ↔ l = List.range (2 * h) := by
      rw [← map_range]
      exact List.map_inj_right (fun a b hab => by have h1 : (a : Int) = (b : Int) := hab; omega)
    by_cases hz : l = List.range (2 * h)
    · rw [if_pos hz] at he
      simp at he
      subst he
      simp [hinj.2 hz]
    · rw [if_neg hz] at he
      have hl2 : (rif h b l).length = 2 * h := by unfold rif; rw [il_length b _ _ (by simp; omega)]; simp; omega
      have := ord_loop hh f _ _ r he hl2 (by omega)
      have hne : ¬ (l.map (fun (j : Nat) => (j : Int)) = mr (2 * h) (fun j => (j : Int))) := fun hx => hz (hinj.1 hx)
      simp only [hne, decide_false, Option.bind_some, Bool.not_false, if_true]
      rw [riffle_ok h hh b _ (by simpa using hl)]
      simp only [Option.bind_some]
      rw [w64_of (by omega)]
      have em : rif h b (l.map (fun (j : Nat) => (j : Int))) = (rif h b l).map (fun (j : Nat) => (j : Int)) := by
        unfold rif
        rw [il_map, List.map_take, List.map_drop]
      rw [em]
      simpa using this

theorem refsorted_ok (n : Nat) (hn : n ≤ 104) : loop (gameroomref_RiffleOrder_L1 n) ((List.replicate (Int.toNat (n : Int)) (0 : Int)), 0) = some (mr n fun j => j) := by
  refine loop_from (fun i => (mr n (fun j => if j < i then (j : Int) else 0), (i : Int))) n (by show (_, _) = (_, _); rw [fill_zero n (fun j => (j : Int))]; rfl) (fun i hi => ?_) ?_
  · simp only [gameroomref_RiffleOrder_L1, gameroomref_RiffleOrder_J2, gameroomref_RiffleOrder_J3]
    rw [if_pos (by simp; omega), asrt_pos ⟨by omega, by rw [mr_length]; omega⟩, w64_of (by omega), Int.toNat_natCast, fill_step (fun j => (j : Int))]
    rfl
  · simp only [gameroomref_RiffleOrder_L1]
    rw [if_neg (by simp), fill_done n (fun j => (j : Int))]

theorem even_ok (h : Nat) (hh : h ≤ 52) (b : Bool) : ∃ k : Int, deck_Order_J1 ((2 * h : Nat) : Int) b = some (k, 0) ∧ gameroomref_RiffleOrder_m ((2 * h : Nat) : Int) b = some k := by
  have hc := List.all_eq_true.1 all_chk h (by simp; omega)
  simp only [Bool.and_eq_true] at hc
  have hc : chk h b = true := by cases b; exact hc.1; exact hc.2
  unfold chk at hc
  split at hc
  · rename_i k m hk hm
    simp at hc
    subst hc
    refine ⟨k, ?_, ?_⟩
    · have em : rif h b (mr (2 * h) (fun j => (j : Int))) = (rif h b (List.range (2 * h))).map (fun (j : Nat) => (j : Int)) := by
        rw [← map_range]
        unfold rif
        rw [il_map, List.map_take, List.map_drop]
      have hl2 : (rif h b (List.range (2 * h))).length = 2 * h := by unfold rif; rw [il_length b _ _ (by simp; omega)]; simp; omega
      have h1 := loop_of (ord_loop hh 200 _ 1 k hk hl2 (by omega))
      unfold deck_Order_J1
      rw [sorted_ok _ (by omega)]
      simp only [Option.bind_some]
      rw [riffle_ok h hh b _ (mr_length _ _)]
      simp only [Option.bind_some]
      rw [em]
      rw [show ((1 : Nat) : Int) = 1 from rfl] at h1
      rw [h1]
      rfl
    · unfold gameroomref_RiffleOrder_m
      rw [asrt_pos ⟨by omega, by unfold bigN; omega⟩, refsorted_ok _ (by omega)]
      simp only [Option.bind_some, gameroomref_RiffleOrder_K1, gameroomref_RiffleOrder_J1]
      rw [riffleOf_ok h hh b _ (mr_length _ _)]
      simp only [Option.bind_some]
      rw [rif_mr h b _ (mr_length _ _)]
      have e : mr (2 * h) (fun j => (mr (2 * h) (fun j => (j : Int))).getD (src h b j) 0) = mr (2 * h) (fun j => (src h b j : Int)) := mr_congr fun j hj => mr_getD (src_lt hj)
      rw [e]
      rw [List.range_eq_range'] at hm
      have h1 := loop_of (allL_loop hh (2 * h) 0 1 k (by omega) hm)
      rw [show ((1 : Nat) : Int) = 1 from rfl, show ((0 : Nat) : Int) = 0 from rfl] at h1
      rw [h1]
      rfl
  · simp at hc

theorem true_DeckOrders (n : Int) (b : Bool) (_ : inI n) : gameroomlaw_DeckOrders_m n b = some true := by
  unfold gameroomlaw_DeckOrders_m deck_Order_m
  by_cases h1 : n < 0 ∨ 104 < n
  · have e : (decide (n < 0) || decide ((104 : Int) < n)) = true := by simpa using h1
    simp [e]
  · obtain ⟨m, rfl⟩ := Int.eq_ofNat_of_zero_le (by omega : 0 ≤ n)
    have hm : m ≤ 104 := by omega
    have e1 : (decide ((m : Int) < 0) || decide ((104 : Int) < (m : Int))) = false := by simp; omega
    have e2 := ba ⟨m, by omega⟩
    simp only at e2
    have e3 : Int.tmod (m : Int) 2 = ((m % 2 : Nat) : Int) := by rw [Int.tmod_eq_emod_of_nonneg (by omega)]; omega
    rw [e1, e2, e3]
    by_cases ho : m % 2 = 1
    · simp [ho]
    · obtain ⟨h, rfl⟩ : ∃ h, m = 2 * h := ⟨m / 2, by omega⟩
      obtain ⟨k, h2, h3⟩ := even_ok h (by omega) b
      have e4 : 2 * h % 2 = 0 := by omega
      simp only [e4, h2]
      have h3' : gameroomref_RiffleOrder_m (2 * (h : Int)) b = some k := by simpa using h3
      simp [gameroomlaw_DeckOrders_J1, h3']

end Go.Proofs.Ytnplejebgbdfpaa
