/-
  WordsFit: words in order; the law.
-/
import Derived.Test.YtdbdcbejmbpbmaaDoorFTb
namespace Go.Proofs.YtdbdcbejmbpbmaaDoor
open Go Go.GL

variable {l g h : List (List UInt8)} {s : List UInt8}
/-- The first place of a list that is not below. -/
theorem place_r {out : List (List UInt8)} {x : List UInt8} (ho : out.length ≤ 1000000) {i : Nat} (hx : l[i]? = some x) : ∃ k : Nat, loop (gameroomref_SortedWords_L2 l out (i : Int)) 0 = some ((k : Nat) : Int) ∧ k ≤ out.length ∧ (∀ j, j < k → out.getD j [] < x) ∧ (k < out.length → ¬ out.getD k [] < x) := by
  have hi := (List.getElem?_eq_some_iff.1 hx).1
  obtain ⟨r, hr, k, rfl, hP⟩ := count_loop (step := gameroomref_SortedWords_L2 l out (i : Int)) (fun (_ : Unit) k => ((k : Nat) : Int)) (fun k _ => ∀ j, j < k → out.getD j [] < x)
    (fun r => ∃ k : Nat, r = (k : Int) ∧ k ≤ out.length ∧ (∀ j, j < k → out.getD j [] < x) ∧ (k < out.length → ¬ out.getD k [] < x)) out.length () (fun j hj => absurd hj (Nat.not_lt_zero _))
    (fun k _ hk hI => by
      have hok := getD_some (l := out) (i := k) hk
      have st : gameroomref_SortedWords_L2 l out (i : Int) ((k : Nat) : Int) = if out.getD k [] < x then some (.next (((k + 1 : Nat)) : Int)) else some (.done (k : Int)) := by
        unfold gameroomref_SortedWords_L2
        simp only
        rw [asrt_pos (fun _ => by omega), asrt_pos (fun _ => by omega), getd_some hok, getd_some hx]
        rw [show decide (((k : Nat) : Int) < (out.length : Int)) = true from decide_eq_true (by omega), Bool.true_and]
        by_cases q : out.getD k [] < x
        · rw [if_pos (less_iff.2 q), if_pos q]
          unfold gameroomref_SortedWords_J5
          rw [wsum k (by omega)]
          rfl
        · rw [if_neg (fun e => q (less_iff.1 e)), if_neg q]
      rw [st]
      by_cases q : out.getD k [] < x
      · refine .inl ⟨(), if_pos q, fun j hj => ?_⟩
        by_cases e : j = k
        · subst e; exact q
        · exact hI j (by omega)
      · exact .inr ⟨_, if_neg q, k, rfl, by omega, hI, fun _ => q⟩)
    (fun _ hI => by
      refine ⟨_, ?_, out.length, rfl, Nat.le_refl _, hI, fun e => absurd e (by omega)⟩
      unfold gameroomref_SortedWords_L2
      simp only
      rw [asrt_pos (fun e => absurd (of_decide_eq_true e) (by omega)), asrt_pos (fun e => absurd (of_decide_eq_true e) (by omega)), show decide (((out.length : Nat) : Int) < (out.length : Int)) = false from decide_eq_false (by omega)]
      rfl)
  exact ⟨k, hr, hP⟩
theorem one_r {out : List (List UInt8)} {x : List UInt8} (ho : out.length ≤ 1000000) {i : Nat} (hx : l[i]? = some x) (hi4 : i ≤ 1000000) : gameroomref_SortedWords_J2 l out (i : Int) = some (.next (insT x out, ((i + 1 : Nat) : Int))) := by
  have hi := (List.getElem?_eq_some_iff.1 hx).1
  obtain ⟨k, hk, hk1, hk2, hk3⟩ := place_r ho hx
  unfold gameroomref_SortedWords_J2
  rw [hk, Option.bind_some]
  show gameroomref_SortedWords_J4 l out (i : Int) (k : Int) = _
  rw [insT_at hk1 hk2 hk3]
  unfold gameroomref_SortedWords_J4 gameroomref_SortedWords_J3
  rw [asrt_pos (fun e => by have := of_decide_eq_true e; omega), asrt_pos (fun e => by omega), getd_some hx, wsum i (by omega)]
  by_cases q : k < out.length
  · rw [getd_some (getD_some q), show decide ((k : Int) < (out.length : Int)) = true from decide_eq_true (by omega), Bool.true_and]
    by_cases q2 : out.getD k [] = x
    · rw [if_pos (beq_iff_eq.2 q2), if_pos ⟨q, q2⟩]
      rfl
    · rw [if_neg (fun e => q2 (beq_iff_eq.1 e)), if_neg (fun e => q2 e.2)]
      unfold gameroomref_SortedWords_J6 gameroomref_SortedWords_J3
      have c1 : cut out (0 : Int) (k : Int) = out.take k := by simp [cut]
      have c2 : cut out (k : Int) (out.length : Int) = out.drop k := by unfold cut; rw [List.take_of_length_le (by simp)]; simp
      rw [c1, c2, getd_some hx]
      unfold bigP
      rw [asrt_pos (by omega), asrt_pos (by simp only [List.length_take]; omega), asrt_pos (by omega), asrt_pos (by simp only [List.nil_append, List.length_take]; omega), asrt_pos (by omega), asrt_pos (by simp only [List.nil_append, List.length_append, List.length_take, List.length_drop, List.length_singleton]; omega), wsum i (by omega)]
      simp
  · have hke : k = out.length := by omega
    rw [show decide ((k : Int) < (out.length : Int)) = false from decide_eq_false (by omega), Bool.false_and, if_neg (by decide), if_neg (fun e => q e.1)]
    unfold gameroomref_SortedWords_J6 gameroomref_SortedWords_J3
    have c1 : cut out (0 : Int) (k : Int) = out.take k := by simp [cut]
    have c2 : cut out (k : Int) (out.length : Int) = out.drop k := by unfold cut; rw [List.take_of_length_le (by simp)]; simp
    rw [c1, c2, getd_some hx]
    unfold bigP
    rw [asrt_pos (by omega), asrt_pos (by simp only [List.length_take]; omega), asrt_pos (by omega), asrt_pos (by simp only [List.nil_append, List.length_take]; omega), asrt_pos (by omega), asrt_pos (by simp only [List.nil_append, List.length_append, List.length_take, List.length_drop, List.length_singleton]; omega), wsum i (by omega)]
    simp
theorem insAllT_len : ∀ {ws l : List (List UInt8)}, (insAllT ws l).length ≤ ws.length + l.length
  | [], l => by simp [insAllT]
  | w :: ws, l => by
    have h1 := insAllT_len (ws := ws) (l := insT w l)
    have h2 := insT_len (w := w) (l := l)
    show (insAllT ws (insT w l)).length ≤ _
    simp only [List.length_cons]
    omega
theorem insAllT_snoc {ws l : List (List UInt8)} {x : List UInt8} : insAllT (ws ++ [x]) l = insT x (insAllT ws l) := by
  unfold insAllT
  rw [List.foldl_append]
  rfl
theorem Sorted_r (hl : l.length ≤ 60) : gameroomref_SortedWords_m l = some (insAllT l []) := by
  obtain ⟨r, hr, hP⟩ := count_loop (step := gameroomref_SortedWords_L1 l) (fun (out : List (List UInt8)) i => (out, ((i : Nat) : Int))) (fun i out => out = insAllT (l.take i) [])
    (fun r => r = insAllT l []) l.length [] rfl
    (fun i out hi hI => by
      have hx := getD_some hi
      have hlen : out.length ≤ 60 := by
        rw [hI]
        have := insAllT_len (ws := l.take i) (l := [])
        simp only [List.length_take, List.length_nil] at this
        omega
      refine .inl ⟨insT (l.getD i []) out, ?_, ?_⟩
      · show (if (decide ((i : Int) < (l.length : Int))) then gameroomref_SortedWords_J2 l out (i : Int) else some (.done out)) = _
        rw [if_pos (decide_eq_true (by omega))]
        exact one_r (by omega) hx (by omega)
      · rw [List.take_add_one, hx, hI]
        exact insAllT_snoc.symm)
    (fun out hI => ⟨out, by
      have : gameroomref_SortedWords_L1 l (out, ((l.length : Nat) : Int)) = (if (decide ((l.length : Int) < (l.length : Int))) then gameroomref_SortedWords_J2 l out (l.length : Int) else some (.done out)) := rfl
      rw [this, if_neg (by simp)], by rw [hI, List.take_length]⟩)
  unfold gameroomref_SortedWords_m
  have hr' : loop (gameroomref_SortedWords_L1 l) (([] : List (List UInt8)), 0) = some r := hr
  rw [hr', Option.bind_some, hP]
  rfl

/-- The document's words that fit. -/
theorem inner_fit {r1 : List (List UInt8)} (hr : Sm r1) (wr : ∀ x ∈ r1, isW x = true) (hg : Sm g) (hh : Sm h) (wg : ∀ x ∈ g, isW x = true) (hn : g.length = h.length) {i : Nat} (hi : i < r1.length) :
    loop (gameroomref_FitsOf_L2 g h r1 (i : Int) ((runesL (r1.getD i [])).map encR, true)) (true, 0) = some (fitB (r1.getD i []) g h) := by
  have hx := getD_some hi
  have bx := hr.at_ hx
  have wx := wr _ (List.mem_of_getElem? hx)
  generalize hs : r1.getD i [] = s at *
  have b3 := hh.1
  obtain ⟨r, hr2, hP⟩ := count_loop (step := gameroomref_FitsOf_L2 g h r1 (i : Int) ((runesL s).map encR, true)) (fun (ok : Bool) k => (ok, ((k : Nat) : Int)))
    (fun k ok => (ok = true ∧ ∀ j : Nat, j < k → fit1 s (g.getD j []) (h.getD j []) = true) ∨ (ok = false ∧ ¬ Fit s g h)) (fun r => r = fitB s g h) g.length true (.inl ⟨rfl, fun j hj => absurd hj (Nat.not_lt_zero _)⟩)
    (fun k ok hk hI => by
      have hgk := getD_some (l := g) (i := k) hk
      have hhk := getD_some (l := h) (i := k) (by omega)
      have b1 := hg.at_ hgk
      have wk := wg _ (List.mem_of_getElem? hgk)
      rcases hI with ⟨rfl, hI⟩ | ⟨rfl, hI⟩
      · refine .inl ⟨fit1 s (g.getD k []) (h.getD k []), ?_, ?_⟩
        · show (if ((decide ((k : Int) < (g.length : Int))) && true) then gameroomref_FitsOf_J5 g h r1 (i : Int) ((runesL s).map encR, true) (k : Int) else some (.done true)) = _
          rw [if_pos (by simp; omega)]
          unfold gameroomref_FitsOf_J5 gameroomref_FitsOf_J6
          rw [asrt_pos (by omega), getd_some hgk, letters_len b1 wk, Option.bind_some, getd_some hx, getd_some hhk, asrt_pos (fun _ => by omega), asrt_pos (fun _ => by omega)]
          unfold fit1
          simp only [List.length_map]
          generalize g.getD k [] = gi at *
          generalize h.getD k [] = hi' at *
          by_cases q : (runesL s).length = (runesL gi).length
          · have hq := hint_is bx b1 wx wk q
            rw [if_pos (by simp [q]), hq.2, Option.bind_some, wsum k (by omega), asrt_pos (fun _ => by omega)]
            simp [q]
          · rw [if_neg (by simp; omega), Option.bind_some, wsum k (by omega), asrt_pos (fun _ => by omega)]
            have : ¬ ((runesL s).length : Int) = ((runesL gi).length : Int) := by omega
            have e1 : (((runesL s).length : Int) == ((runesL gi).length : Int)) = false := beq_eq_false_iff_ne.2 this
            simp [q, e1]
        · cases q : fit1 s (g.getD k []) (h.getD k []) with
          | true =>
            refine .inl ⟨rfl, fun j hj => ?_⟩
            by_cases e : j = k
            · subst e; exact q
            · exact hI j (by omega)
          | false => exact .inr ⟨rfl, fun e => by have := e k (by omega); rw [q] at this; cases this⟩
      · refine .inr ⟨false, ?_, ?_⟩
        · show (if ((decide ((k : Int) < (g.length : Int))) && false) then gameroomref_FitsOf_J5 g h r1 (i : Int) ((runesL s).map encR, true) (k : Int) else some (.done false)) = _
          rw [if_neg (by simp)]
        · unfold fitB; rw [if_neg hI])
    (fun ok hI => ⟨ok, by
      have : gameroomref_FitsOf_L2 g h r1 (i : Int) ((runesL s).map encR, true) (ok, ((g.length : Nat) : Int)) = (if ((decide ((g.length : Int) < (g.length : Int))) && ok) then gameroomref_FitsOf_J5 g h r1 (i : Int) ((runesL s).map encR, true) (g.length : Int) else some (.done ok)) := rfl
      rw [this, if_neg (by simp)], by
      unfold fitB
      rcases hI with ⟨rfl, hI⟩ | ⟨rfl, hI⟩
      · rw [if_pos (show Fit s g h from fun k hk => hI k (by omega))]
      · rw [if_neg hI]⟩)
  rw [← hP]
  exact hr2
theorem FitsOf_r {r1 : List (List UInt8)} (hsrt : gameroomref_SortedWords_m l = some r1) (hr : Sm r1) (hr6 : r1.length ≤ 60) (wr : ∀ x ∈ r1, isW x = true) (hg : Sm g) (hh : Sm h) (wg : ∀ x ∈ g, isW x = true) (hn : g.length = h.length) :
    gameroomref_FitsOf_m l g h = some (r1.filter (fun x => fitB x g h)) := by
  obtain ⟨r, hr2, hP⟩ := count_loop (step := gameroomref_FitsOf_L1 g h r1) (fun (out : List (List UInt8)) i => (out, ((i : Nat) : Int))) (fun i out => out = (r1.take i).filter (fun x => fitB x g h))
    (fun r => r = r1.filter (fun x => fitB x g h)) r1.length [] rfl
    (fun i out hi hI => by
      have hx := getD_some hi
      have bx := hr.at_ hx
      have wx := wr _ (List.mem_of_getElem? hx)
      have hlen : out.length ≤ 60 := by
        rw [hI]
        have := List.length_filter_le (fun x => fitB x g h) (r1.take i)
        rw [List.length_take] at this
        omega
      refine .inl ⟨out ++ (if fitB (r1.getD i []) g h = true then [r1.getD i []] else []), ?_, ?_⟩
      · show (if (decide ((i : Int) < (r1.length : Int))) then gameroomref_FitsOf_J2 g h r1 out (i : Int) else some (.done out)) = _
        rw [if_pos (decide_eq_true (by omega))]
        unfold gameroomref_FitsOf_J2
        rw [asrt_pos (by omega), getd_some hx, letters_len bx wx, Option.bind_some, inner_fit hr wr hg hh wg hn hi, Option.bind_some]
        show gameroomref_FitsOf_J4 r1 out (i : Int) (fitB (r1.getD i []) g h) = _
        unfold gameroomref_FitsOf_J4 gameroomref_FitsOf_J3
        rw [wsum i (by omega)]
        cases fitB (r1.getD i []) g h with
        | true =>
          unfold bigP
          rw [if_pos rfl, asrt_pos (by omega), asrt_pos (by omega), getd_some hx, if_pos rfl]
          rfl
        | false =>
          rw [if_neg (by decide), if_neg (by decide), List.append_nil]
          rfl
      · rw [filter_take_succ hx, hI])
    (fun out hI => ⟨out, by
      have : gameroomref_FitsOf_L1 g h r1 (out, ((r1.length : Nat) : Int)) = (if (decide ((r1.length : Int) < (r1.length : Int))) then gameroomref_FitsOf_J2 g h r1 out (r1.length : Int) else some (.done out)) := rfl
      rw [this, if_neg (by simp)], by rw [hI, List.take_length]⟩)
  unfold gameroomref_FitsOf_m
  have hr' : loop (gameroomref_FitsOf_L1 g h r1) (([] : List (List UInt8)), 0) = some r := hr2
  rw [hsrt, Option.bind_some, hr', Option.bind_some, hP]
  rfl
theorem same_refl (a : List (List UInt8)) (ha : a.length ≤ 1000000) : gameroomref_SameTexts_m a a = some true := by
  unfold gameroomref_SameTexts_m gameroomref_SameTexts_J1
  rw [if_neg (by simp)]
  have key : loop (gameroomref_SameTexts_L1 a a) 0 = some (Fl.go ()) := by
    refine loop_from (fun i => ((i : Nat) : Int)) a.length rfl (fun i hi => ?_) ?_
    · have hx := getD_some hi
      show (if (decide ((i : Int) < (a.length : Int))) then gameroomref_SameTexts_J3 a a (i : Int) else some (.done (.go ()))) = _
      rw [if_pos (decide_eq_true (by omega))]
      unfold gameroomref_SameTexts_J3 gameroomref_SameTexts_J4
      rw [asrt_pos (by omega), asrt_pos (by omega), if_neg (by simp), wsum i (by omega)]
      rfl
    · show (if (decide ((a.length : Int) < (a.length : Int))) then gameroomref_SameTexts_J3 a a (a.length : Int) else some (.done (.go ()))) = _
      rw [if_neg (by simp)]
  rw [key, Option.bind_some]
  rfl
theorem texts_p (hl : Sm l) : gameroomlaw_texts_m l = some l := by
  have := hl.1
  unfold gameroomlaw_texts_m bigP
  rw [asrt_pos (by omega), List.nil_append]

theorem true_WordsFit (l g h : List (List UInt8)) (hl1 : l.length ≤ 1048576) (hl2 : ∀ x ∈ l, x.length ≤ 1048576) (hg1 : g.length ≤ 1048576) (hg2 : ∀ x ∈ g, x.length ≤ 1048576) (hh1 : h.length ≤ 1048576) (hh2 : ∀ x ∈ h, x.length ≤ 1048576) : gameroomlaw_WordsFit_m l g h = some true := by
  have hl : Sm l := ⟨hl1, hl2⟩
  have hg : Sm g := ⟨hg1, hg2⟩
  have hh : Sm h := ⟨hh1, hh2⟩
  unfold gameroomlaw_WordsFit_m
  rw [texts_p hl, texts_p hg, texts_p hh, Option.bind_some, Option.bind_some, Option.bind_some, May_r hl]
  unfold words_Fits_m
  rw [Check_p hl hg, Option.bind_some]
  by_cases m1 : mayW l = 0
  · rw [if_pos m1]
    by_cases m2 : mayW g = 0
    · rw [if_neg (by simp [m2])]
      obtain ⟨l6, wl⟩ := may0 m1
      obtain ⟨g6, wg⟩ := may0 m2
      unfold words_Fits_J1
      by_cases hn : g.length = h.length
      · rw [if_neg (by simp [hn])]
        unfold words_Fits_J2
        obtain ⟨r, hr, hP⟩ := hintsOk_p hg hh hn
        obtain ⟨r7, hr7, hP7⟩ := fitsMay_r hg hh wg hn
        rw [hr, Option.bind_some]
        rcases hP with ⟨rfl, ok⟩ | ⟨rfl, ok⟩
        · -- all hints do
          have e7 : r7 = 0 := by
            rcases hP7 with ⟨e, _⟩ | ⟨_, e⟩
            · exact e
            · exact absurd ok e
          subst e7
          show ((words_Fits_J3 l g h).bind fun r4 => _) = _
          unfold words_Fits_J3 words_sorted_m slices_Values_m slices_Sorted_m slices_Compact_2_m
          have sl : (sortT l).length = l.length := sortT_length l
          rw [Option.bind_some, asrt_pos (by omega), Option.bind_some, asrt_pos (by unfold bigN; omega), Option.bind_some, Option.bind_some, texts_same l]
          have mem : ∀ x, x ∈ insAllT l [] ↔ x ∈ l := fun x => by rw [insAllT_mem]; simp
          have rl := insAllT_len (ws := l) (l := [])
          have hr1 : Sm (insAllT l []) := ⟨by simp only [List.length_nil] at rl; omega, fun x hx => hl2 x ((mem x).1 hx)⟩
          have wr : ∀ x ∈ insAllT l [], isW x = true := fun x hx => wl x ((mem x).1 hx)
          obtain ⟨n, m, hd, hcut⟩ := del_p (g := g) (h := h) hr1 (bad := fun x => !fitB x g h) (fun x hx => fits_p (hr1.2 x hx) (wr x hx) hg hh wg hn)
          rw [hd, Option.bind_some, hcut, Option.bind_some, Option.bind_some, m1, if_pos (by decide), May_r hg, Option.bind_some, m2]
          unfold gameroomlaw_WordsFit_J1
          rw [if_pos (by decide), hr7, Option.bind_some]
          unfold gameroomlaw_WordsFit_J2
          rw [if_neg (by decide)]
          unfold gameroomlaw_WordsFit_J3
          rw [if_pos (by rfl), FitsOf_r (Sorted_r l6) hr1 (by simp only [List.length_nil] at rl; omega) wr hg hh wg hn, Option.bind_some, if_pos (by rfl)]
          simp only [Bool.not_not]
          have fl := List.length_filter_le (fun x => fitB x g h) (insAllT l [])
          simp only [List.length_nil] at rl
          rw [same_refl _ (by omega), Option.bind_some]
          rfl
        · have e7 : r7 = 1 := by
            rcases hP7 with ⟨_, e⟩ | ⟨e, _⟩
            · exact absurd e ok
            · exact e
          subst e7
          show ((some (([] : List (List UInt8)), (1 : Int))).bind fun r4 => _) = _
          rw [Option.bind_some, Option.bind_some, m1, if_pos (by decide), May_r hg, Option.bind_some, m2]
          unfold gameroomlaw_WordsFit_J1
          rw [if_pos (by decide), hr7, Option.bind_some]
          rfl
      · rw [if_pos (by simp; omega), Option.bind_some, Option.bind_some, m1, if_pos (by decide), May_r hg, Option.bind_some, m2]
        unfold gameroomlaw_WordsFit_J1 gameroomref_FitsMay_m
        rw [if_pos (by decide), if_pos (by simp; omega), Option.bind_some]
        rfl
    · rw [if_pos (by simp [m2]), Option.bind_some, Option.bind_some, m1, if_pos (by decide), May_r hg, Option.bind_some]
      unfold gameroomlaw_WordsFit_J1
      rw [if_neg (by simp [m2])]
      unfold gameroomlaw_WordsFit_J2
      rw [if_pos (by simp [m2])]
      simp
  · rw [if_neg m1, if_pos (by simp [m1]), Option.bind_some, Option.bind_some, if_neg (by simp [m1])]
    unfold gameroomlaw_WordsFit_J1
    rw [if_neg (by simp [m1])]
    unfold gameroomlaw_WordsFit_J2
    rw [if_pos (by simp [m1])]
    simp
end Go.Proofs.YtdbdcbejmbpbmaaDoor
