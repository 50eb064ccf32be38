/-
  WordsFit: what is asked of words and hints, on both sides.
-/
import Derived.Test.YtdbdcbejmbpbmaaDoorWCf
import Derived.Test.YtdbdcbejmbpbmaaDoorLibEs
namespace Go.Proofs.YtdbdcbejmbpbmaaDoor
open Go Go.GL

theorem find_loop {α R : Type} {step : Int → Option (St Int R)} {l : List α} (p : α → Bool) (a b : R)
    (h1 : ∀ (i : Nat) x, l[i]? = some x → p x = false → step (i : Int) = some (.done a))
    (h2 : ∀ (i : Nat) x, l[i]? = some x → p x = true → step (i : Int) = some (.next ((i : Int) + 1)))
    (h3 : step (l.length : Int) = some (.done b)) : loop step 0 = some (if l.all p = true then b else a) := by
  have key := search_loop (step := step) (l := l) (fun x => !p x) (fun _ => a) b (fun i x hx hp => h1 i x hx (by simpa using hp)) (fun i x hx hp => h2 i x hx (by simpa using hp)) h3
  rw [key]
  cases h : l.findIdx? (fun x => !p x) with
  | none =>
    rw [List.findIdx?_eq_none_iff] at h
    have : l.all p = true := List.all_eq_true.2 fun x hx => by simpa using h x hx
    rw [if_pos this]
  | some i =>
    obtain ⟨e1, e2, _⟩ := List.findIdx?_eq_some_iff_getElem.1 h
    have : ¬ l.all p = true := fun e => by
      have := List.all_eq_true.1 e _ (List.getElem_mem e1)
      rw [this] at e2
      cases e2
    rw [if_neg this]
theorem dropWhile_nil {α : Type} {p : α → Bool} : ∀ {l : List α}, l.dropWhile p = [] ↔ ∀ x ∈ l, p x = true
  | [] => by simp
  | x :: l => by
    have ih := dropWhile_nil (p := p) (l := l)
    cases h : p x with
    | true => rw [List.dropWhile_cons_of_pos h, ih]; simp [h]
    | false => rw [List.dropWhile_cons_of_neg (by simp [h])]; simp [h]

/-- A list that is small, of small texts. -/
def Sm (l : List (List UInt8)) : Prop := l.length ≤ 1048576 ∧ ∀ x ∈ l, x.length ≤ 1048576
theorem Sm.at_ {l : List (List UInt8)} (h : Sm l) {i : Nat} {x : List UInt8} (hx : l[i]? = some x) : x.length ≤ 1048576 := h.2 x (List.mem_of_getElem? hx)
theorem Sm.idx {l : List (List UInt8)} (h : Sm l) {i : Nat} {x : List UInt8} (hx : l[i]? = some x) : i < l.length ∧ l.length ≤ 1048576 := ⟨(List.getElem?_eq_some_iff.1 hx).1, h.1⟩

variable {l g h : List (List UInt8)}
theorem wsum (i : Nat) (hi : i < 4000000000) : w64 ((i : Int) + 1) = (i : Int) + 1 := w64_of (by omega)
theorem check1 (hl : Sm l) : loop (words_check_L1 l) 0 = some (if l.all isW = true then .go () else .ret 14) := by
  refine find_loop isW _ _ (fun i x hx hp => ?_) (fun i x hx hp => ?_) ?_
  · have hb := hl.at_ hx
    have hi := hl.idx hx
    show (if (decide ((i : Int) < (l.length : Int))) then words_check_J5 l (i : Int) else some (.done (.go ()))) = _
    rw [if_pos (decide_eq_true (by omega))]
    unfold words_check_J5
    rw [asrt_pos (by omega), getd_some hx, word_p (by omega), Option.bind_some, if_pos (by rw [hp]; rfl)]
  · have hb := hl.at_ hx
    have hi := hl.idx hx
    show (if (decide ((i : Int) < (l.length : Int))) then words_check_J5 l (i : Int) else some (.done (.go ()))) = _
    rw [if_pos (decide_eq_true (by omega))]
    unfold words_check_J5 words_check_J6
    rw [asrt_pos (by omega), getd_some hx, word_p (by omega), Option.bind_some, if_neg (by rw [hp]; decide), wsum i (by omega)]
  · show (if (decide ((l.length : Int) < (l.length : Int))) then words_check_J5 l (l.length : Int) else some (.done (.go ()))) = _
    rw [if_neg (by simp)]
theorem check2 (hl : Sm l) : loop (words_check_L2 l) 0 = some (if l.all isW = true then .go () else .ret 14) := by
  refine find_loop isW _ _ (fun i x hx hp => ?_) (fun i x hx hp => ?_) ?_
  · have hb := hl.at_ hx
    have hi := hl.idx hx
    show (if (decide ((i : Int) < (l.length : Int))) then words_check_J10 l (i : Int) else some (.done (.go ()))) = _
    rw [if_pos (decide_eq_true (by omega))]
    unfold words_check_J10
    rw [asrt_pos (by omega), getd_some hx, word_p (by omega), Option.bind_some, if_pos (by rw [hp]; rfl)]
  · have hb := hl.at_ hx
    have hi := hl.idx hx
    show (if (decide ((i : Int) < (l.length : Int))) then words_check_J10 l (i : Int) else some (.done (.go ()))) = _
    rw [if_pos (decide_eq_true (by omega))]
    unfold words_check_J10 words_check_J11
    rw [asrt_pos (by omega), getd_some hx, word_p (by omega), Option.bind_some, if_neg (by rw [hp]; decide), wsum i (by omega)]
  · show (if (decide ((l.length : Int) < (l.length : Int))) then words_check_J10 l (l.length : Int) else some (.done (.go ()))) = _
    rw [if_neg (by simp)]
theorem may1 (hl : Sm l) : loop (gameroomref_WordsMay_L1 l) 0 = some (if l.all isW = true then .go () else .ret 14) := by
  refine find_loop isW _ _ (fun i x hx hp => ?_) (fun i x hx hp => ?_) ?_
  · have hb := hl.at_ hx
    have hi := hl.idx hx
    show (if (decide ((i : Int) < (l.length : Int))) then gameroomref_WordsMay_J3 l (i : Int) else some (.done (.go ()))) = _
    rw [if_pos (decide_eq_true (by omega))]
    unfold gameroomref_WordsMay_J3
    rw [asrt_pos (by omega), getd_some hx, wordMay_r (by omega), Option.bind_some, if_pos (by rw [hp]; rfl)]
  · have hb := hl.at_ hx
    have hi := hl.idx hx
    show (if (decide ((i : Int) < (l.length : Int))) then gameroomref_WordsMay_J3 l (i : Int) else some (.done (.go ()))) = _
    rw [if_pos (decide_eq_true (by omega))]
    unfold gameroomref_WordsMay_J3 gameroomref_WordsMay_J4
    rw [asrt_pos (by omega), getd_some hx, wordMay_r (by omega), Option.bind_some, if_neg (by rw [hp]; decide), wsum i (by omega)]
  · show (if (decide ((l.length : Int) < (l.length : Int))) then gameroomref_WordsMay_J3 l (l.length : Int) else some (.done (.go ()))) = _
    rw [if_neg (by simp)]
/-- What is said of a list of words. -/
def mayW (l : List (List UInt8)) : Int := if 60 < l.length then 2 else if l.all isW = true then 0 else 14
theorem May_r (hl : Sm l) : gameroomref_WordsMay_m l = some (mayW l) := by
  unfold gameroomref_WordsMay_m mayW
  by_cases q : 60 < l.length
  · rw [if_pos (decide_eq_true (by omega)), if_pos q]
  · rw [if_neg (by simp; omega), if_neg q]
    unfold gameroomref_WordsMay_J1
    rw [may1 hl, Option.bind_some]
    cases l.all isW <;> rfl
theorem Check_p (hl : Sm l) (hg : Sm g) : words_check_m l g = some (if mayW l = 0 then mayW g else mayW l) := by
  unfold words_check_m words_check_J2 words_check_J4
  rw [asrt_pos (by omega)]
  by_cases q : 60 < l.length
  · rw [if_pos (decide_eq_true (by omega))]
    unfold mayW
    rw [if_pos q, if_neg (by decide)]
  · rw [if_neg (by simp; omega), check1 hl, Option.bind_some]
    cases a : l.all isW with
    | false =>
      have e : mayW l = 14 := by unfold mayW; rw [if_neg q, a]; rfl
      rw [e]; rfl
    | true =>
      have e : mayW l = 0 := by unfold mayW; rw [if_neg q, a]; rfl
      rw [e, if_pos rfl, if_pos rfl]
      show words_check_J3 g = _
      unfold words_check_J3 words_check_J7 words_check_J9
      rw [asrt_pos (by omega)]
      by_cases q2 : 60 < g.length
      · rw [if_pos (decide_eq_true (by omega))]
        unfold mayW
        rw [if_pos q2]
      · rw [if_neg (by simp; omega), check2 hg, Option.bind_some]
        unfold mayW
        rw [if_neg q2]
        cases g.all isW <;> rfl
theorem may0 (hm : mayW l = 0) : l.length ≤ 60 ∧ ∀ x ∈ l, isW x = true := by
  unfold mayW at hm
  split at hm
  · cases hm
  · split at hm
    · rename_i q a
      exact ⟨by omega, fun x hx => List.all_eq_true.1 a x hx⟩
    · cases hm

/-- A sign of a hint. -/
def gy (b : UInt8) : Bool := ([103, 121, 46] : List UInt8).contains b
theorem trim_nil (s : List UInt8) : trimM s [103, 121, 46] = [] ↔ s.all gy = true := by
  unfold trimM Lib.trimS Lib.trimLeftS Lib.trimRightS
  constructor
  · intro e
    have hall : ∀ x ∈ (s.reverse.dropWhile (([103, 121, 46] : List UInt8).contains ·)), gy x = true := by
      intro x hx
      have := dropWhile_nil.1 e x (List.mem_reverse.2 hx)
      exact this
    cases hd : s.reverse.dropWhile (([103, 121, 46] : List UInt8).contains ·) with
    | nil =>
      have := dropWhile_nil.1 hd
      exact List.all_eq_true.2 fun x hx => this x (List.mem_reverse.2 hx)
    | cons x r =>
      have h1 := hall x (by rw [hd]; exact List.mem_cons_self ..)
      have h2 := List.head?_dropWhile_not (([103, 121, 46] : List UInt8).contains ·) s.reverse
      rw [hd] at h2
      simp only [List.head?_cons] at h2
      rw [show ([103, 121, 46] : List UInt8).contains x = gy x from rfl, h1] at h2
      cases h2
  · intro a
    have : s.reverse.dropWhile (([103, 121, 46] : List UInt8).contains ·) = [] := dropWhile_nil.2 fun x hx => List.all_eq_true.1 a x (List.mem_reverse.1 hx)
    rw [this]
    rfl
theorem gy_not (b : UInt8) : gy b = false ↔ (b.toNat : Int) ≠ 103 ∧ (b.toNat : Int) ≠ 121 ∧ (b.toNat : Int) ≠ 46 := by
  have key : ∀ n < 256, gy (UInt8.ofNat n) = false ↔ n ≠ 103 ∧ n ≠ 121 ∧ n ≠ 46 := by decide +kernel
  have := key b.toNat b.toNat_lt
  rw [UInt8.ofNat_toNat] at this
  rw [this]
  omega

/-- A hint that does for a guess. -/
def okH (g h : List UInt8) : Bool := h.all gy && decide (h.length = (runesL g).length)
/-- All hints do. -/
def okHs (g h : List (List UInt8)) : Prop := ∀ k : Nat, k < h.length → okH (g.getD k []) (h.getD k []) = true
theorem hintsOk_p (hg : Sm g) (hh : Sm h) (hn : g.length = h.length) : ∃ r, loop (words_Fits_L1 g h) 0 = some r ∧ ((r = .go () ∧ okHs g h) ∨ (r = .ret ([], 1) ∧ ¬ okHs g h)) := by
  obtain ⟨r, hr, hP⟩ := count_loop (step := words_Fits_L1 g h) (fun (_ : Unit) i => ((i : Nat) : Int)) (fun i _ => ∀ k : Nat, k < i → okH (g.getD k []) (h.getD k []) = true)
    (fun r => (r = .go () ∧ okHs g h) ∨ (r = .ret ([], 1) ∧ ¬ okHs g h)) h.length () (fun j hj => absurd hj (Nat.not_lt_zero _))
    (fun i _ hi hI => by
      have hgi : g[i]? = some (g.getD i []) := by rw [List.getD_eq_getElem?_getD, List.getElem?_eq_getElem (by omega)]; rfl
      have hhi : h[i]? = some (h.getD i []) := by rw [List.getD_eq_getElem?_getD, List.getElem?_eq_getElem (by omega)]; rfl
      have b1 := hg.at_ hgi
      have b2 := hh.at_ hhi
      have b3 := hh.1
      have st : words_Fits_L1 g h ((i : Nat) : Int) = if okH (g.getD i []) (h.getD i []) = true then some (.next (((i + 1 : Nat)) : Int)) else some (.done (.ret ([], 1))) := by
        show (if (decide ((i : Int) < (h.length : Int))) then words_Fits_J4 g h (i : Int) else some (.done (.go ()))) = _
        rw [if_pos (decide_eq_true (by omega))]
        unfold words_Fits_J4 strings_Trim_m words_Fits_J5
        rw [asrt_pos (by omega), getd_some hhi, getd_some hgi, asrt_pos ⟨by omega, by decide, by decide⟩, Option.bind_some, asrt_pos (fun _ => by omega), count_r (by omega)]
        generalize g.getD i [] = gi at *
        generalize h.getD i [] = hi' at *
        unfold okH
        cases a : hi'.all gy with
        | false =>
          have : ¬ trimM hi' [103, 121, 46] = [] := fun e => by rw [(trim_nil hi').1 e] at a; cases a
          rw [if_neg (by simp [this]), Option.bind_some, if_pos (by simp [this]), if_neg (by simp)]
        | true =>
          have : trimM hi' [103, 121, 46] = [] := (trim_nil hi').2 a
          rw [if_pos (by simp [this]), Option.bind_some, this]
          by_cases q : hi'.length = (runesL gi).length
          · rw [if_neg (by simp [q]), if_pos (by simp [q]), wsum i (by omega)]
            rfl
          · rw [if_pos (by simp; omega), if_neg (by simp [q])]
      rw [st]
      by_cases q : okH (g.getD i []) (h.getD i []) = true
      · refine .inl ⟨(), if_pos q, fun k hk => ?_⟩
        by_cases e : k = i
        · subst e; exact q
        · exact hI k (by omega)
      · exact .inr ⟨_, if_neg q, .inr ⟨rfl, fun e => q (e i hi)⟩⟩)
    (fun _ hI => ⟨.go (), by
      have : words_Fits_L1 g h ((h.length : Nat) : Int) = (if (decide ((h.length : Int) < (h.length : Int))) then words_Fits_J4 g h (h.length : Int) else some (.done (.go ()))) := rfl
      rw [this, if_neg (by simp)], .inl ⟨rfl, hI⟩⟩)
  exact ⟨r, hr, hP⟩
theorem letters_len {s : List UInt8} (hl : s.length ≤ 1048576) (hw : isW s = true) : gameroomref_lettersOf_m s false = some ((runesL s).map encR, true) := by
  rw [lettersOf_r (by omega), if_neg]
  unfold isW at hw
  rw [Bool.and_eq_true, Bool.not_eq_true'] at hw
  rw [hw.2]; decide
theorem inner_r (hh : Sm h) {i : Nat} (hi : i < h.length) : ∃ r, loop (gameroomref_FitsMay_L2 h (i : Int)) 0 = some r ∧ r = if (h.getD i []).all gy = true then .go () else .ret 1 := by
  have hhi : h[i]? = some (h.getD i []) := by rw [List.getD_eq_getElem?_getD, List.getElem?_eq_getElem (by omega)]; rfl
  have b2 := hh.at_ hhi
  have b3 := hh.1
  have hgd : getd ([] : List UInt8) h (i : Int) = h.getD i [] := getd_some hhi
  refine ⟨_, ?_, rfl⟩
  refine find_loop gy _ _ (fun k x hx hp => ?_) (fun k x hx hp => ?_) ?_
  · have hk := (List.getElem?_eq_some_iff.1 hx).1
    have hu : getU (h.getD i []) (k : Int) = (x.toNat : Int) := by
      unfold getU
      rw [Int.toNat_natCast, List.getD_eq_getElem?_getD (l := h.getD i []), hx]
      rfl
    have hv := (gy_not x).1 hp
    show asrt (0 ≤ (i : Int) ∧ (i : Int) < (h.length : Int)) (if (decide ((k : Int) < ((getd ([] : List UInt8) h (i : Int)).length : Int))) then gameroomref_FitsMay_J6 h (i : Int) (k : Int) else some (.done (.go ()))) = _
    rw [asrt_pos (by omega), hgd, if_pos (decide_eq_true (by omega))]
    unfold gameroomref_FitsMay_J6
    rw [hgd, hu, asrt_pos (by omega), asrt_pos (by omega), asrt_pos (fun _ => by omega), asrt_pos (fun _ => by omega), asrt_pos (fun _ => by omega), asrt_pos (fun _ => by omega), if_pos]
    simp only [Bool.and_eq_true, bne_iff_ne]
    exact ⟨⟨hv.1, hv.2.1⟩, hv.2.2⟩
  · have hk := (List.getElem?_eq_some_iff.1 hx).1
    have hu : getU (h.getD i []) (k : Int) = (x.toNat : Int) := by
      unfold getU
      rw [Int.toNat_natCast, List.getD_eq_getElem?_getD (l := h.getD i []), hx]
      rfl
    have hv : ¬ ((x.toNat : Int) ≠ 103 ∧ (x.toNat : Int) ≠ 121 ∧ (x.toNat : Int) ≠ 46) := fun e => by
      have := (gy_not x).2 e
      rw [this] at hp
      cases hp
    show asrt (0 ≤ (i : Int) ∧ (i : Int) < (h.length : Int)) (if (decide ((k : Int) < ((getd ([] : List UInt8) h (i : Int)).length : Int))) then gameroomref_FitsMay_J6 h (i : Int) (k : Int) else some (.done (.go ()))) = _
    rw [asrt_pos (by omega), hgd, if_pos (decide_eq_true (by omega))]
    unfold gameroomref_FitsMay_J6 gameroomref_FitsMay_J7
    rw [hgd, hu, asrt_pos (by omega), asrt_pos (by omega), asrt_pos (fun _ => by omega), asrt_pos (fun _ => by omega), asrt_pos (fun _ => by omega), asrt_pos (fun _ => by omega), if_neg, wsum k (by omega)]
    simp only [Bool.and_eq_true, bne_iff_ne]
    exact fun e => hv ⟨e.1.1, e.1.2, e.2⟩
  · show asrt (0 ≤ (i : Int) ∧ (i : Int) < (h.length : Int)) (if (decide (((h.getD i []).length : Int) < ((getd ([] : List UInt8) h (i : Int)).length : Int))) then gameroomref_FitsMay_J6 h (i : Int) ((h.getD i []).length : Int) else some (.done (.go ()))) = _
    rw [asrt_pos (by omega), hgd, if_neg (by simp)]
theorem fitsMay_r (hg : Sm g) (hh : Sm h) (hw : ∀ x ∈ g, isW x = true) (hn : g.length = h.length) : ∃ r, gameroomref_FitsMay_m g h = some r ∧ ((r = 0 ∧ okHs g h) ∨ (r = 1 ∧ ¬ okHs g h)) := by
  obtain ⟨r, hr, hP⟩ := count_loop (step := gameroomref_FitsMay_L1 g h) (fun (_ : Unit) i => ((i : Nat) : Int)) (fun i _ => ∀ k : Nat, k < i → okH (g.getD k []) (h.getD k []) = true)
    (fun r => (r = .go () ∧ okHs g h) ∨ (r = .ret 1 ∧ ¬ okHs g h)) h.length () (fun j hj => absurd hj (Nat.not_lt_zero _))
    (fun i _ hi hI => by
      have hgi : g[i]? = some (g.getD i []) := by rw [List.getD_eq_getElem?_getD, List.getElem?_eq_getElem (by omega)]; rfl
      have hhi : h[i]? = some (h.getD i []) := by rw [List.getD_eq_getElem?_getD, List.getElem?_eq_getElem (by omega)]; rfl
      have b1 := hg.at_ hgi
      have b2 := hh.at_ hhi
      have b3 := hh.1
      have hwi := hw _ (List.mem_of_getElem? hgi)
      have st : gameroomref_FitsMay_L1 g h ((i : Nat) : Int) = if okH (g.getD i []) (h.getD i []) = true then some (.next (((i + 1 : Nat)) : Int)) else some (.done (.ret 1)) := by
        show (if (decide ((i : Int) < (h.length : Int))) then gameroomref_FitsMay_J3 g h (i : Int) else some (.done (.go ()))) = _
        rw [if_pos (decide_eq_true (by omega))]
        unfold gameroomref_FitsMay_J3 gameroomref_FitsMay_J5
        rw [asrt_pos (by omega), getd_some hgi, letters_len b1 hwi, Option.bind_some, asrt_pos (by omega), getd_some hhi]
        obtain ⟨q1, q2, q3⟩ := inner_r hh hi
        rw [q2, q3]
        generalize g.getD i [] = gi at *
        generalize h.getD i [] = hi' at *
        unfold okH
        by_cases q : hi'.length = (runesL gi).length
        · rw [if_neg (by simp [q]), Option.bind_some]
          cases a : hi'.all gy with
          | false => rw [if_neg (by simp), if_neg (by simp)]; rfl
          | true =>
            rw [if_pos rfl, if_pos (by simp [q])]
            show gameroomref_FitsMay_J4 (i : Int) = _
            unfold gameroomref_FitsMay_J4
            rw [wsum i (by omega)]
            rfl
        · rw [if_pos (by simp; omega), if_neg (by simp [q])]
      rw [st]
      by_cases q : okH (g.getD i []) (h.getD i []) = true
      · refine .inl ⟨(), if_pos q, fun k hk => ?_⟩
        by_cases e : k = i
        · subst e; exact q
        · exact hI k (by omega)
      · exact .inr ⟨_, if_neg q, .inr ⟨rfl, fun e => q (e i hi)⟩⟩)
    (fun _ hI => ⟨.go (), by
      have : gameroomref_FitsMay_L1 g h ((h.length : Nat) : Int) = (if (decide ((h.length : Int) < (h.length : Int))) then gameroomref_FitsMay_J3 g h (h.length : Int) else some (.done (.go ()))) := rfl
      rw [this, if_neg (by simp)], .inl ⟨rfl, hI⟩⟩)
  unfold gameroomref_FitsMay_m gameroomref_FitsMay_J1
  rw [if_neg (by simp [hn])]
  have hr' : loop (gameroomref_FitsMay_L1 g h) 0 = some r := hr
  rw [hr', Option.bind_some]
  rcases hP with ⟨rfl, e⟩ | ⟨rfl, e⟩
  · exact ⟨0, rfl, .inl ⟨rfl, e⟩⟩
  · exact ⟨1, rfl, .inr ⟨rfl, e⟩⟩
end Go.Proofs.YtdbdcbejmbpbmaaDoor
