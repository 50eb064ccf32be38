/-
  DraughtsTexts: the program reads a way.
-/
import Derived.Test.YtdbdcbejmbpbmaaDoorDTa
namespace Go.Proofs.YtdbdcbejmbpbmaaDoor
open Go Go.GL

def strB (n : Int) : Bool := decide (n < 1) || decide ((32 : Int) < n)
theorem wsum (i : Nat) (hi : i < 4000000000) : w64 ((i : Int) + 1) = (i : Int) + 1 := w64_of (by omega)
theorem strange_any {l : List Int} (hl : l.length ≤ 4000000) : slices_ContainsFunc_m l = some (l.any strB) := by
  unfold slices_ContainsFunc_m slices_IndexFunc_m
  have key : loop (slices_IndexFunc_L1 l) 0 = some (match l.findIdx? strB with | some i => Fl.ret (i : Int) | none => Fl.go ()) := by
    refine search_loop (p := strB) (fun i => Fl.ret (i : Int)) (Fl.go ()) (fun i x hx hp => ?_) (fun i x hx hp => ?_) ?_
    · have hi := (List.getElem?_eq_some_iff.1 hx).1
      have hg : geti l (i : Int) = x := by rw [geti_nat, List.getD_eq_getElem?_getD, hx]; rfl
      show (if (decide ((i : Int) < (l.length : Int))) then slices_IndexFunc_J2 l (i : Int) else some (.done (.go ()))) = _
      rw [if_pos (decide_eq_true (by omega))]
      unfold slices_IndexFunc_J2 draughts_strange_m
      rw [asrt_pos (by omega), hg, Option.bind_some]
      exact if_pos hp
    · have hi := (List.getElem?_eq_some_iff.1 hx).1
      have hg : geti l (i : Int) = x := by rw [geti_nat, List.getD_eq_getElem?_getD, hx]; rfl
      show (if (decide ((i : Int) < (l.length : Int))) then slices_IndexFunc_J2 l (i : Int) else some (.done (.go ()))) = _
      rw [if_pos (decide_eq_true (by omega))]
      unfold slices_IndexFunc_J2 draughts_strange_m slices_IndexFunc_J3
      rw [asrt_pos (by omega), hg, Option.bind_some, wsum i (by omega)]
      exact if_neg (by unfold strB at hp; rw [hp]; decide)
    · show (if (decide ((l.length : Int) < (l.length : Int))) then slices_IndexFunc_J2 l (l.length : Int) else some (.done (.go ()))) = _
      rw [if_neg (by simp)]
  rw [key, Option.bind_some]
  cases h : l.findIdx? strB with
  | none =>
    rw [List.findIdx?_eq_none_iff] at h
    have : l.any strB = false := by
      rw [List.any_eq_false]
      intro x hx e
      rw [h x hx] at e
      cases e
    rw [this]
    rfl
  | some i =>
    obtain ⟨h1, h2, _⟩ := List.findIdx?_eq_some_iff_getElem.1 h
    have : l.any strB = true := List.any_eq_true.2 ⟨l[i], List.getElem_mem h1, h2⟩
    rw [this]
    show (some (i : Int)).bind _ = _
    rw [Option.bind_some]
    simp

theorem getU0 {p : List UInt8} : getU p 0 = ((p.getD 0 0).toNat : Int) := rfl
theorem first48 {p : List UInt8} : (getU p 0 == 48) = (p.getD 0 0 == 48) := by
  rw [getU0]
  generalize p.getD 0 0 = b
  by_cases h : b = 48
  · subst h; rfl
  · have h1 : ¬ ((b.toNat : Int) = 48) := fun e => h (by
      have : b.toNat = 48 := by omega
      exact UInt8.toNat_inj.1 (by rw [this]; rfl))
    rw [beq_eq_false_iff_ne.2 h1, beq_eq_false_iff_ne.2 h]
/-- One piece. -/
theorem piece_p {p : List UInt8} {z : Int} {way : List Int} (hp : p.length ≤ 1048576) (hw : way.length ≤ 4000000) : draughts_Read_L1 (p, (z, way)) = some (if okP p = true then .next (z, way ++ [valP p]) else .done (1, way)) := by
  show (strconv_Atoi_m p).bind _ = _
  unfold strconv_Atoi_m strings_Trim_m
  rw [asrt_pos (by omega), Option.bind_some]
  simp only
  have hset : (([48, 49, 50, 51, 52, 53, 54, 55, 56, 57] : List UInt8).all fun b => decide (b.toNat < 128)) = true := by decide
  by_cases he : p = []
  · subst he
    rfl
  · have hb : (p == ([] : List UInt8)) = false := beq_eq_false_iff_ne.2 he
    have hlen : 0 < p.length := List.length_pos_iff.2 he
    rw [hb, Bool.or_false]
    cases hd : p.all isD with
    | false =>
      have hok : okP p = false := by unfold okP; rw [hd]; simp
      have ht : (trimM p [48, 49, 50, 51, 52, 53, 54, 55, 56, 57] == ([] : List UInt8)) = false := beq_eq_false_iff_ne.2 fun e => by rw [(trim_digits p).1 e] at hd; cases hd
      rw [hok]
      cases hc : (atoiE p && decide ((p.length : Int) < 19)) with
      | true => rfl
      | false =>
        rw [if_pos (by decide), asrt_pos ⟨by omega, by decide, hset⟩, Option.bind_some, ht]
        rfl
    | true =>
      have hc : (atoiE p && decide ((p.length : Int) < 19)) = false := by
        rcases atoi_digits he hd with ⟨e, _⟩ | ⟨e, hl, _⟩
        · rw [e]; rfl
        · rw [e, decide_eq_false (by omega)]; rfl
      have ht : trimM p [48, 49, 50, 51, 52, 53, 54, 55, 56, 57] = [] := (trim_digits p).2 hd
      rw [hc, if_pos (by decide), asrt_pos ⟨by omega, by decide, hset⟩, Option.bind_some, ht, asrt_pos (fun _ => by omega), first48]
      have hok : okP p = !(p.getD 0 0 == 48) := by unfold okP; rw [hd, hb]; simp
      rw [hok]
      cases p.getD 0 0 == 48 with
      | true => rfl
      | false =>
        rw [if_neg (by decide), if_pos (by decide)]
        unfold draughts_Read_J3 draughts_Read_J4 valP bigN
        cases atoiE p with
        | true => rw [if_pos rfl, if_pos rfl, asrt_pos (by omega)]
        | false => rw [if_neg (show ¬ ((atoiN p, false).2 = true) from Bool.false_ne_true), if_neg (by decide), asrt_pos (by omega)]

/-- What comes of the pieces. -/
noncomputable def resL : List (List UInt8) → List Int → St (Int × List Int) (Int × List Int)
  | [], way => .next (0, way)
  | p :: ps, way => if okP p = true then resL ps (way ++ [valP p]) else .done (1, way)

noncomputable abbrev ydR : List UInt8 → St (Int × List Int) (Int × List Int) → Option (St (Int × List Int) (Int × List Int) × Bool) := ydOf (fun x s => draughts_Read_L1 (x, s))
theorem yd_piece {p : List UInt8} {way : List Int} (hp : p.length ≤ 1048576) (hw : way.length ≤ 4000000) : ydR p (.next (0, way)) = some (if okP p = true then (.next (0, way ++ [valP p]), true) else (.done (1, way), false)) := by
  show (draughts_Read_L1 (p, (0, way))).bind _ = _
  rw [piece_p hp hw, Option.bind_some]
  cases okP p <;> rfl
theorem seq_last {c : UInt8} {z : List UInt8} {way : List Int} (hc : c ∉ z) (hz : z.length ≤ 1048576) (hw : way.length + z.length ≤ 4000000) :
    ∃ fl, loop (strings_splitSeq_1_L2 ydR [c] 0) (.next (0, way), z) = some fl ∧ strings_splitSeq_1_K2 ydR fl = some (resL (spC c z) way) := by
  have hi := index_none hc
  have st : strings_splitSeq_1_L2 ydR [c] 0 (.next (0, way), z) = some (.done (.go (.next (0, way), z))) := by
    show (strings_Index_m z [c]).bind _ = _
    unfold strings_Index_m
    rw [asrt_pos (by omega), Option.bind_some, hi, if_pos (by decide)]
  refine ⟨_, loop_done st, ?_⟩
  show strings_splitSeq_1_J6 ydR (.next (0, way)) z = _
  unfold strings_splitSeq_1_J6 strings_splitSeq_1_J1
  rw [yd_piece hz (by omega), Option.bind_some, spC_no hc]
  unfold resL
  cases okP z <;> rfl
theorem seq_p {c : UInt8} (n : Nat) : ∀ (z : List UInt8) (way : List Int), z.length ≤ n → z.length ≤ 1048576 → way.length + z.length ≤ 4000000 →
    ∃ fl, loop (strings_splitSeq_1_L2 ydR [c] 0) (.next (0, way), z) = some fl ∧ strings_splitSeq_1_K2 ydR fl = some (resL (spC c z) way) := by
  induction n with
  | zero =>
    intro z way hn hz hw
    refine seq_last (fun h => ?_) hz hw
    have := List.length_pos_of_mem h
    omega
  | succ n ih =>
    intro z way hn hz hw
    by_cases hc : c ∈ z
    · obtain ⟨a, r, rfl, ha⟩ := List.eq_append_cons_of_mem hc
      simp only [List.length_append, List.length_cons] at hn hz hw
      have hi := index_at_ (r := r) ha
      have w1 : w64 ((a.length : Int) + 0) = (a.length : Int) := by rw [Int.add_zero]; exact w64_of (by omega)
      have w2 : w64 ((a.length : Int) + 1) = (a.length : Int) + 1 := w64_of (by omega)
      have c1 : cut (a ++ c :: r) (0 : Int) (a.length : Int) = a := by simp [cut]
      have c2 : cut (a ++ c :: r) ((a.length : Int) + 1) ((a ++ c :: r).length : Int) = r := by
        unfold cut
        rw [show ((a.length : Int) + 1).toNat = a.length + 1 by omega, ← List.drop_drop, List.drop_left, List.drop_one, List.tail_cons, List.take_of_length_le]
        simp only [List.length_append, List.length_cons]
        omega
      have st : strings_splitSeq_1_L2 ydR [c] 0 (.next (0, way), a ++ c :: r) = some (if okP a = true then .next (.next (0, way ++ [valP a]), r) else .done (.ret (.done (1, way)))) := by
        show (strings_Index_m (a ++ c :: r) [c]).bind _ = _
        unfold strings_Index_m
        rw [asrt_pos (by simp only [List.length_append, List.length_cons]; omega), Option.bind_some, hi, if_neg (by simp)]
        unfold strings_splitSeq_1_J7 strings_splitSeq_1_J8
        rw [w1, asrt_pos (by simp only [List.length_append, List.length_cons]; omega), c1, yd_piece (by omega) (by omega), Option.bind_some]
        cases okP a with
        | false => rfl
        | true =>
          simp only [if_true, Bool.not_true, Bool.false_eq_true, if_false]
          rw [show (([c] : List UInt8).length : Int) = 1 from rfl, w2, asrt_pos (by simp only [List.length_append, List.length_cons]; omega), c2]
      rw [spC_app ha]
      unfold resL
      cases ho : okP a with
      | true =>
        rw [ho, if_pos rfl] at st
        obtain ⟨fl, h1, h2⟩ := ih r (way ++ [valP a]) (by omega) (by omega) (by simp only [List.length_append, List.length_singleton]; omega)
        exact ⟨fl, loop_next' st h1, by rw [h2, if_pos rfl]⟩
      | false =>
        rw [ho, if_neg (by decide)] at st
        exact ⟨_, loop_done st, by rw [if_neg (by decide)]; rfl⟩
    · exact seq_last hc hz hw

theorem resL_eq : ∀ (ps : List (List UInt8)) (way : List Int), resL ps way = if ps.all okP = true then .next (0, way ++ ps.map valP) else resL ps way
  | [], way => by unfold resL; simp
  | p :: ps, way => by
    cases h : (p :: ps).all okP with
    | false => rw [if_neg (by decide)]
    | true =>
      rw [if_pos rfl]
      rw [List.all_cons, Bool.and_eq_true] at h
      have ih := resL_eq ps (way ++ [valP p])
      rw [if_pos h.2] at ih
      unfold resL
      rw [if_pos h.1, ih]
      simp
theorem resL_bad : ∀ (ps : List (List UInt8)) (way : List Int), ps.all okP = false → ∃ w, resL ps way = .done (1, w)
  | [], way, h => by cases h
  | p :: ps, way, h => by
    unfold resL
    cases hp : okP p with
    | false => exact ⟨way, by rw [if_neg (by decide)]⟩
    | true =>
      rw [List.all_cons, hp, Bool.true_and] at h
      rw [if_pos rfl]
      exact resL_bad ps _ h
/-- What the program says of a text. -/
noncomputable def readP (c : UInt8) (text : List UInt8) : List Int × Bool × Int :=
  if (spC c text).all okP = true then
    if (spC c text).length < 2 then ([], false, 1)
    else if ((spC c text).map valP).any strB = true then ([], false, 3)
    else ((spC c text).map valP, c == 120, 0)
  else ([], false, 1)
theorem Read_p {text : List UInt8} (ht : text.length ≤ 1048576) : draughts_Read_m text = some (readP (if 120 ∈ text then 120 else 45) text) := by
  have one : ∀ c : UInt8, draughts_Read_J1 text [c] = some (readP c text) := by
    intro c
    unfold draughts_Read_J1 strings_SplitSeq_m strings_splitSeq_m
    rw [Option.bind_some, Option.bind_some]
    simp only
    unfold strings_splitSeq_1_m strings_splitSeq_1_J2
    rw [if_neg (by simp)]
    obtain ⟨fl, h1, h2⟩ := seq_p (c := c) text.length text [] (Nat.le_refl _) ht (by simp; omega)
    have h1' : loop (strings_splitSeq_1_L2 (ydOf fun x s => draughts_Read_L1 (x, s)) [c] 0) (.next (0, []), text) = some fl := h1
    rw [h1', Option.bind_some]
    have h2' : strings_splitSeq_1_K2 (ydOf fun x s => draughts_Read_L1 (x, s)) fl = some (resL (spC c text) []) := h2
    rw [h2', Option.bind_some]
    unfold readP
    have hl := spC_len c text
    have hcl := List.count_le_length (a := c) (l := text)
    cases ha : (spC c text).all okP with
    | false =>
      obtain ⟨w, hw⟩ := resL_bad _ [] ha
      rw [hw, if_neg (by decide)]
      rfl
    | true =>
      rw [resL_eq, ha, if_pos rfl, if_pos rfl, List.nil_append]
      show draughts_Read_J2 [c] 0 ((spC c text).map valP) = _
      unfold draughts_Read_J2 draughts_Read_J5
      by_cases q : (spC c text).length < 2
      · rw [if_pos (by simp; omega), if_pos q]
      · rw [if_neg (by simp; omega), if_neg q, strange_any (by rw [List.length_map]; omega), Option.bind_some]
        cases ((spC c text).map valP).any strB with
        | true => rfl
        | false =>
          rw [if_neg (by decide), if_neg (by decide)]
          have : (([c] : List UInt8) == [120]) = (c == 120) := by
            by_cases e : c = 120
            · subst e; rfl
            · rw [beq_eq_false_iff_ne.2 e]; exact beq_eq_false_iff_ne.2 (fun h => e (List.cons.inj h).1)
          rw [this]
  unfold draughts_Read_m strings_Contains_m
  rw [asrt_pos (by omega), Option.bind_some]
  by_cases h : (120 : UInt8) ∈ text
  · rw [if_pos (contains_iff.2 h), if_pos h]
    exact one 120
  · rw [if_neg (fun e => h (contains_iff.1 e)), if_neg h]
    exact one 45
end Go.Proofs.YtdbdcbejmbpbmaaDoor
