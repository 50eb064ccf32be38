/-
  WordsFit: words that fit, on both sides.
-/
import Derived.Test.YtdbdcbejmbpbmaaDoorFTa
namespace Go.Proofs.YtdbdcbejmbpbmaaDoor
open Go Go.GL

/-- The hint that a guess gets. -/
noncomputable def Hn (s g : List UInt8) : List UInt8 := (words_hint_m (runesL s) (runesL g)).getD []
theorem isW_for {s : List UInt8} (h : isW s = true) : (runesL s).any forB = false := by
  unfold isW at h
  rw [Bool.and_eq_true, Bool.not_eq_true'] at h
  exact h.2
theorem hint_is {s g : List UInt8} (hs : s.length ≤ 1048576) (hg : g.length ≤ 1048576) (ws : isW s = true) (wg : isW g = true) (hn : (runesL s).length = (runesL g).length) : words_hint_m (runesL s) (runesL g) = some (Hn s g) ∧ gameroomref_HintOf_m s g = some (Hn s g) := by
  obtain ⟨r, h1, h2⟩ := hint_both (s := s) (g := g) (by omega) (by omega) (isW_for ws) (isW_for wg) hn
  have : Hn s g = r := by unfold Hn; rw [h1]; rfl
  rw [this]
  exact ⟨h1, h2⟩
/-- Does a word fit one hint? -/
noncomputable def fit1 (s g h : List UInt8) : Bool := decide ((runesL s).length = (runesL g).length) && (Hn s g == h)
/-- All of them. -/
def Fit (s : List UInt8) (g h : List (List UInt8)) : Prop := ∀ k : Nat, k < h.length → fit1 s (g.getD k []) (h.getD k []) = true
open Classical in
noncomputable def fitB (s : List UInt8) (g h : List (List UInt8)) : Bool := if Fit s g h then true else false

variable {g h : List (List UInt8)} {s : List UInt8}
theorem getD_some {l : List (List UInt8)} {i : Nat} (hi : i < l.length) : l[i]? = some (l.getD i []) := by rw [List.getD_eq_getElem?_getD, List.getElem?_eq_getElem hi]; rfl
theorem fits_p (hs : s.length ≤ 1048576) (ws : isW s = true) (hg : Sm g) (hh : Sm h) (wg : ∀ x ∈ g, isW x = true) (hn : g.length = h.length) : words_Fits_1_m s g h = some (!fitB s g h) := by
  obtain ⟨r, hr, hP⟩ := count_loop (step := words_Fits_1_L1 s g h) (fun (_ : Unit) i => ((i : Nat) : Int)) (fun i _ => ∀ k : Nat, k < i → fit1 s (g.getD k []) (h.getD k []) = true)
    (fun r => (r = .go () ∧ Fit s g h) ∨ (r = .ret true ∧ ¬ Fit s g h)) g.length () (fun j hj => absurd hj (Nat.not_lt_zero _))
    (fun i _ hi hI => by
      have hgi := getD_some (l := g) (i := i) hi
      have hhi := getD_some (l := h) (i := i) (by omega)
      have b1 := hg.at_ hgi
      have b2 := hh.at_ hhi
      have b3 := hh.1
      have wi := wg _ (List.mem_of_getElem? hgi)
      have st : words_Fits_1_L1 s g h ((i : Nat) : Int) = if fit1 s (g.getD i []) (h.getD i []) = true then some (.next (((i + 1 : Nat)) : Int)) else some (.done (.ret true)) := by
        show (if (decide ((i : Int) < (g.length : Int))) then words_Fits_1_J2 s g h (i : Int) else some (.done (.go ()))) = _
        rw [if_pos (decide_eq_true (by omega))]
        unfold words_Fits_1_J2 words_Fits_1_J3
        rw [asrt_pos (by omega), getd_some hgi, getd_some hhi, asrt_pos (by unfold bigN; omega)]
        unfold fit1
        generalize g.getD i [] = gi at *
        generalize h.getD i [] = hi' at *
        by_cases q : (runesL s).length = (runesL gi).length
        · have hh := hint_is hs b1 ws wi q
          rw [if_pos (by simp [q]), hh.1, Option.bind_some, asrt_pos (fun _ => by omega)]
          by_cases q2 : Hn s gi = hi'
          · rw [if_neg (by simp [q, q2]), if_pos (by simp [q, q2]), wsum i (by omega)]
            rfl
          · rw [if_pos (by simp [q2]), if_neg (by simp [q2])]
        · rw [if_neg (by simp; omega), Option.bind_some, asrt_pos (fun _ => by omega), if_pos (by simp; left; omega), if_neg (by simp [q])]
      rw [st]
      by_cases q : fit1 s (g.getD i []) (h.getD i []) = true
      · refine .inl ⟨(), if_pos q, fun k hk => ?_⟩
        by_cases e : k = i
        · subst e; exact q
        · exact hI k (by omega)
      · exact .inr ⟨_, if_neg q, .inr ⟨rfl, fun e => q (e i (by omega))⟩⟩)
    (fun _ hI => ⟨.go (), by
      have : words_Fits_1_L1 s g h ((g.length : Nat) : Int) = (if (decide ((g.length : Int) < (g.length : Int))) then words_Fits_1_J2 s g h (g.length : Int) else some (.done (.go ()))) := rfl
      rw [this, if_neg (by simp)], .inl ⟨rfl, fun k hk => hI k (by omega)⟩⟩)
  unfold words_Fits_1_m
  have hr' : loop (words_Fits_1_L1 s g h) 0 = some r := hr
  rw [asrt_pos (by unfold bigN; omega), hr', Option.bind_some]
  unfold fitB
  rcases hP with ⟨rfl, e⟩ | ⟨rfl, e⟩
  · rw [if_pos e]; rfl
  · rw [if_neg e]; rfl

/-- What is left of a list. -/
theorem index_p {l : List (List UInt8)} (hl : Sm l) {bad : List UInt8 → Bool} (hb : ∀ x ∈ l, words_Fits_1_m x g h = some (bad x)) : slices_IndexFunc_m l g h = some (match l.findIdx? bad with | some i => (i : Int) | none => -1) := by
  unfold slices_IndexFunc_m
  have key : loop (slices_IndexFunc_L1 l g h) 0 = some (match l.findIdx? bad with | some i => Fl.ret (i : Int) | none => Fl.go ()) := by
    refine search_loop (p := bad) (fun i => Fl.ret (i : Int)) (Fl.go ()) (fun i x hx hp => ?_) (fun i x hx hp => ?_) ?_
    · have hi := hl.idx hx
      show (if (decide ((i : Int) < (l.length : Int))) then slices_IndexFunc_J2 l g h (i : Int) else some (.done (.go ()))) = _
      rw [if_pos (decide_eq_true (by omega))]
      unfold slices_IndexFunc_J2
      rw [asrt_pos (by omega), getd_some hx, hb x (List.mem_of_getElem? hx), Option.bind_some, if_pos hp]
    · have hi := hl.idx hx
      show (if (decide ((i : Int) < (l.length : Int))) then slices_IndexFunc_J2 l g h (i : Int) else some (.done (.go ()))) = _
      rw [if_pos (decide_eq_true (by omega))]
      unfold slices_IndexFunc_J2 slices_IndexFunc_J3
      rw [asrt_pos (by omega), getd_some hx, hb x (List.mem_of_getElem? hx), Option.bind_some, if_neg (by rw [hp]; decide), wsum i (by omega)]
    · show (if (decide ((l.length : Int) < (l.length : Int))) then slices_IndexFunc_J2 l g h (l.length : Int) else some (.done (.go ()))) = _
      rw [if_neg (by simp)]
  rw [key, Option.bind_some]
  cases l.findIdx? bad <;> rfl
theorem filter_take_succ {l : List (List UInt8)} {p : List UInt8 → Bool} {j : Nat} {x : List UInt8} (hx : l[j]? = some x) : (l.take (j + 1)).filter p = (l.take j).filter p ++ (if p x = true then [x] else []) := by
  rw [List.take_add_one, hx, List.filter_append]
  congr 1
  cases hp : p x <;> simp [hp]
theorem del_p {l : List (List UInt8)} (hl : Sm l) {bad : List UInt8 → Bool} (hb : ∀ x ∈ l, words_Fits_1_m x g h = some (bad x)) : ∃ n m, slices_DeleteFunc_2_m l g h = some (n, m) ∧ cut m (0 : Int) n = l.filter (fun x => !bad x) := by
  unfold slices_DeleteFunc_2_m
  rw [index_p hl hb, Option.bind_some]
  have hl1 := hl.1
  cases hf : l.findIdx? bad with
  | none =>
    rw [List.findIdx?_eq_none_iff] at hf
    refine ⟨(l.length : Int), l, by rfl, ?_⟩
    rw [List.filter_eq_self.2 (fun x hx => by rw [hf x hx]; rfl)]
    simp [cut]
  | some i =>
    obtain ⟨hi, hbi, hlow⟩ := List.findIdx?_eq_some_iff_getElem.1 hf
    simp only
    rw [if_neg (by simp)]
    unfold slices_DeleteFunc_2_J1
    rw [wsum i (by omega)]
    -- the loop
    obtain ⟨r, hr, s4, i4, rfl, hi4, hlen4, hfin⟩ := count_loop (step := slices_DeleteFunc_2_L1 l g h) (fun (x : List (List UInt8) × Nat) k => (x.1, (x.2 : Int), ((i + 1 + k : Nat) : Int)))
      (fun k x => x.1.length = l.length ∧ x.2 < i + 1 + k ∧ x.1.drop (i + 1 + k) = l.drop (i + 1 + k) ∧ x.1.take x.2 = (l.take (i + 1 + k)).filter (fun x => !bad x))
      (fun r => ∃ s4 i4, r = (s4, ((i4 : Nat) : Int)) ∧ i4 ≤ l.length ∧ s4.length = l.length ∧ s4.take i4 = l.filter (fun x => !bad x)) (l.length - (i + 1)) (l, i)
      ⟨rfl, by omega, rfl, by
        rw [filter_take_succ (List.getElem?_eq_getElem hi), hbi]
        rw [List.filter_eq_self.2 (fun x hx => by
          obtain ⟨k, hk, rfl⟩ := List.getElem_of_mem hx
          rw [List.length_take] at hk
          rw [List.getElem_take]
          have := hlow k (by omega)
          simpa using this)]
        simp⟩
      (fun k x hk hI => by
        obtain ⟨s3, i3⟩ := x
        obtain ⟨h1, h2, h3, h4⟩ := hI
        simp only at h1 h2 h3 h4
        have hj : i + 1 + k < l.length := by omega
        have hx := List.getElem?_eq_getElem hj
        have hx3 : s3[i + 1 + k]? = some l[i + 1 + k] := by
          have := congrArg (fun l => l[0]?) h3
          simpa [hx] using this
        have hbx := hb _ (List.getElem_mem hj)
        left
        have st : slices_DeleteFunc_2_L1 l g h (s3, (i3 : Int), ((i + 1 + k : Nat) : Int)) = if bad l[i + 1 + k] = true then some (.next (s3, (i3 : Int), ((i + 1 + (k + 1) : Nat) : Int))) else some (.next (s3.set i3 l[i + 1 + k], ((i3 + 1 : Nat) : Int), ((i + 1 + (k + 1) : Nat) : Int))) := by
          show (if (decide (((i + 1 + k : Nat) : Int) < (l.length : Int))) then slices_DeleteFunc_2_J3 l g h s3 (i3 : Int) ((i + 1 + k : Nat) : Int) else some (.done (s3, (i3 : Int)))) = _
          rw [if_pos (decide_eq_true (by omega))]
          unfold slices_DeleteFunc_2_J3 slices_DeleteFunc_2_J4
          rw [asrt_pos (by omega), getd_some hx3, hbx, Option.bind_some, wsum (i + 1 + k) (by omega)]
          cases bad l[i + 1 + k] with
          | true => rw [if_neg (by decide), if_pos rfl]; rfl
          | false =>
            rw [if_pos (by decide), asrt_pos (by omega), if_neg (by decide), wsum i3 (by omega), Int.toNat_natCast]
            rfl
        rw [st]
        by_cases q : bad l[i + 1 + k] = true
        · refine ⟨(s3, i3), if_pos q, h1, by omega, ?_, ?_⟩
          · have := congrArg (List.drop 1) h3
            rwa [List.drop_drop, List.drop_drop] at this
          · rw [show i + 1 + (k + 1) = (i + 1 + k) + 1 by omega, filter_take_succ hx, q]
            simpa using h4
        · refine ⟨(s3.set i3 l[i + 1 + k], i3 + 1), if_neg q, by simpa using h1, by omega, ?_, ?_⟩
          · rw [List.drop_set_of_lt (by omega)]
            have := congrArg (List.drop 1) h3
            rwa [List.drop_drop, List.drop_drop] at this
          · rw [show i + 1 + (k + 1) = (i + 1 + k) + 1 by omega, filter_take_succ hx, ← h4]
            simp only [q, Bool.not_false, if_true]
            rw [List.take_add_one, List.getElem?_set_self (by omega), List.take_set_of_le (by omega)]
            rfl)
      (fun x hI => by
        obtain ⟨s3, i3⟩ := x
        obtain ⟨h1, h2, h3, h4⟩ := hI
        simp only at h1 h2 h3 h4
        refine ⟨(s3, (i3 : Int)), ?_, s3, i3, rfl, by omega, h1, ?_⟩
        · have : slices_DeleteFunc_2_L1 l g h (s3, (i3 : Int), ((i + 1 + (l.length - (i + 1)) : Nat) : Int)) = (if (decide (((i + 1 + (l.length - (i + 1)) : Nat) : Int) < (l.length : Int))) then slices_DeleteFunc_2_J3 l g h s3 (i3 : Int) ((i + 1 + (l.length - (i + 1)) : Nat) : Int) else some (.done (s3, (i3 : Int)))) := rfl
          rw [this, if_neg (by simp; omega)]
        · rw [h4, List.take_of_length_le (by omega)])
    rw [show ((i : Int) + 1) = ((i + 1 + 0 : Nat) : Int) by omega, hr, Option.bind_some]
    refine ⟨(i4 : Int), putL s4 i4 (List.replicate ((cut s4 (i4 : Int) (l.length : Int)).length) ([] : List UInt8)), ?_, ?_⟩
    · show slices_DeleteFunc_2_J2 l s4 (i4 : Int) = _
      unfold slices_DeleteFunc_2_J2
      rw [asrt_pos (by omega), asrt_pos (by omega), Int.toNat_natCast]
    · rw [← hfin]
      unfold cut putL
      simp only [Int.toNat_zero, List.drop_zero, Int.sub_zero, Int.toNat_natCast]
      rw [List.append_assoc, List.take_append_of_le_length (by rw [List.length_take]; omega), List.take_take, Nat.min_self]
end Go.Proofs.YtdbdcbejmbpbmaaDoor
