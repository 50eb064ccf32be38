/-
  Lines of pictures: clues, what is sure, and the law.
-/
import Derived.Test.YtdjjomghggplpaaNLb
namespace Go.Proofs.Ytdjjomghggplpaa
open Go Go.GL

theorem same_l (c : List Int) (hl : c.length ≤ 17592186043904) : gameroomlaw_sameInts_m c c = some true := by
  unfold gameroomlaw_sameInts_m gameroomlaw_sameInts_J1
  rw [if_neg (by simp)]
  have h := loop_from (step := gameroomlaw_sameInts_L1 c c) (s0 := 0) (r := Fl.go ()) (fun k => ((k : Nat) : Int)) c.length rfl (by
    intro k hk
    simp only [gameroomlaw_sameInts_L1, gameroomlaw_sameInts_J3, gameroomlaw_sameInts_J4]
    rw [if_pos (decide_eq_true (by omega)), asrt_pos (by omega), asrt_pos (by omega), if_neg (by simp), w64_of (by omega)]; rfl) (by
    simp only [gameroomlaw_sameInts_L1]; rw [if_neg (by simp)])
  rw [h]; rfl

def badC (x : Int) : Bool := decide (x < 1) || decide (20 < x)
theorem badC_ok {cl : List Int} : cl.any badC = false ↔ okC cl := by
  rw [List.any_eq_false]
  unfold okC badC
  constructor
  · intro h x hx; have := h x hx; simp at this; omega
  · intro h x hx; have := h x hx; simp; omega

theorem ClueMay_p {cl : List Int} (hc : cl.length ≤ 17592186043904) : gameroomref_ClueMay_m cl = some (!cl.any badC) := by
  unfold gameroomref_ClueMay_m
  have wi : ∀ x : Int, gameroomref_within_m x 1 20 = some (!badC x) := fun x => by
    unfold gameroomref_within_m badC
    congr 1
    rw [Bool.eq_iff_iff]
    simp
  have key := search_loop (step := gameroomref_ClueMay_L1 cl) (l := cl) badC (fun i => Fl.ret false) (Fl.go ()) (by
    intro i x hx hp
    have hb := idx_bd hx
    simp only [gameroomref_ClueMay_L1, gameroomref_ClueMay_J2]
    rw [if_pos (decide_eq_true hb.2), asrt_pos hb, geti_some hx, wi, Option.bind_some, hp]; rfl) (by
    intro i x hx hp
    have hb := idx_bd hx
    simp only [gameroomref_ClueMay_L1, gameroomref_ClueMay_J2, gameroomref_ClueMay_J3]
    rw [if_pos (decide_eq_true hb.2), asrt_pos hb, geti_some hx, wi, Option.bind_some, hp, w64_of (by omega)]; rfl) (by
    simp only [gameroomref_ClueMay_L1]
    rw [if_neg (by simp)])
  rw [key, Option.bind_some]
  cases hf : cl.findIdx? badC with
  | none =>
    have : cl.any badC = false := by
      rw [List.any_eq_false]
      intro x hx; rw [List.findIdx?_eq_none_iff.1 hf x hx]; decide
    rw [this]; rfl
  | some i =>
    have : cl.any badC = true := by
      obtain ⟨hi, hp, _⟩ := List.findIdx?_eq_some_iff_getElem.1 hf
      rw [List.any_eq_true]
      exact ⟨cl[i], List.getElem_mem hi, hp⟩
    rw [this]; rfl

/-! ### the clue of a line -/
def rs (line : List Int) : Nat → List Int × Nat
  | 0 => ([], 0)
  | i + 1 => if geti line (i : Int) = 1 then ((rs line i).1, (rs line i).2 + 1) else if 0 < (rs line i).2 then ((rs line i).1 ++ [((rs line i).2 : Int)], 0) else ((rs line i).1, 0)
def rsAll (p : List Int × Nat) : List Int := if 0 < p.2 then p.1 ++ [(p.2 : Int)] else p.1
theorem rs_bd (line : List Int) : ∀ i : Nat, (rs line i).1.length + (rs line i).2 ≤ i
  | 0 => by simp [rs]
  | i + 1 => by
    have := rs_bd line i
    unfold rs
    split
    · dsimp only; omega
    · split
      · simp; omega
      · dsimp only; omega
theorem ClueOf_p {line : List Int} (hl : line.length ≤ 20) (h01 : ∀ i : Nat, i < line.length → geti line (i : Int) = 0 ∨ geti line (i : Int) = 1) : gameroomref_ClueOf_m line = some (rsAll (rs line line.length)) := by
  unfold gameroomref_ClueOf_m
  have key := count_loop (step := gameroomref_ClueOf_L1 line) (fun (s : List Int × Nat) (i : Nat) => (s.1, ((s.2 : Nat) : Int), (i : Int))) (fun i s => if i < line.length then s = rs line i else s.1 = rsAll (rs line line.length)) (fun x => x = rsAll (rs line line.length)) line.length (([] : List Int), 0) (by
    split
    · rfl
    · rename_i h
      rw [show line.length = 0 by omega]; rfl) (by
    rintro i s hi hI
    rw [if_pos hi] at hI
    subst hI
    left
    have hb := rs_bd line i
    have e1 : ∀ (s : List Int) (n : Int), gameroomref_ClueOf_L1 line (s, n, (i : Int)) = gameroomref_ClueOf_J2 line s n (i : Int) := fun s n => if_pos (decide_eq_true (by omega))
    rw [e1]
    unfold gameroomref_ClueOf_J2
    rw [asrt_pos (by omega)]
    have ewl : w64 ((line.length : Int) - 1) = ((line.length - 1 : Nat) : Int) := by rw [w64_of (by omega)]; omega
    -- with so many
    have fin : ∀ m : Nat, m ≤ 21 → (rs line (i + 1) = if 0 < m ∧ geti line (i : Int) = 0 then ((rs line i).1 ++ [(m : Int)], 0) else ((rs line i).1, m)) →
        ∃ s' : List Int × Nat, gameroomref_ClueOf_J4 line (rs line i).1 i (m : Int) = some (.next (s'.1, ((s'.2 : Nat) : Int), ((i + 1 : Nat) : Int))) ∧ (if i + 1 < line.length then s' = rs line (i + 1) else s'.1 = rsAll (rs line line.length)) := by
      intro m hm hrs
      unfold gameroomref_ClueOf_J4 gameroomref_ClueOf_J3
      rw [asrt_pos (by intro _; omega), ewl, w64_of (x := (i : Int) + 1) (by omega)]
      by_cases c1 : 0 < m ∧ (geti line (i : Int) = 0 ∨ i = line.length - 1)
      · rw [if_pos (by simp only [Bool.and_eq_true, Bool.or_eq_true, decide_eq_true_eq, beq_iff_eq]; omega), asrt_pos (by unfold bigN; omega)]
        refine ⟨((rs line i).1 ++ [(m : Int)], 0), rfl, ?_⟩
        by_cases c2 : i + 1 < line.length
        · rw [if_pos c2, hrs, if_pos ⟨c1.1, by omega⟩]
        · rw [if_neg c2, show line.length = i + 1 by omega, hrs]
          unfold rsAll
          split
          · rfl
          · rw [if_pos c1.1]
      · rw [if_neg (by simp only [Bool.and_eq_true, Bool.or_eq_true, decide_eq_true_eq, beq_iff_eq]; omega)]
        refine ⟨((rs line i).1, m), rfl, ?_⟩
        by_cases c2 : i + 1 < line.length
        · rw [if_pos c2, hrs, if_neg (by omega)]
        · rw [if_neg c2, show line.length = i + 1 by omega, hrs, if_neg (by omega)]
          unfold rsAll
          rw [if_neg (show ¬ 0 < m by omega)]
    rcases h01 i hi with h | h
    · rw [if_neg (by rw [h]; decide)]
      refine fin (rs line i).2 (by omega) ?_
      show (if geti line (i : Int) = 1 then _ else _) = _
      rw [if_neg (by omega)]
      by_cases z : 0 < (rs line i).2
      · rw [if_pos z, if_pos ⟨z, h⟩]
      · rw [if_neg z, if_neg (fun y => z y.1), show (rs line i).2 = 0 by omega]
    · rw [if_pos (by rw [h]; decide), w64_of (x := ((rs line i).2 : Int) + 1) (by omega)]
      refine fin ((rs line i).2 + 1) (by omega) ?_
      show (if geti line (i : Int) = 1 then _ else _) = _
      rw [if_pos h, if_neg (by omega)]) (by
    rintro s hI
    rw [if_neg (by omega)] at hI
    exact ⟨s.1, by simp only [gameroomref_ClueOf_L1]; rw [if_neg (by simp)], hI⟩)
  obtain ⟨x, hx, rfl⟩ := key
  have hx' : loop (gameroomref_ClueOf_L1 line) (([] : List Int), 0, 0) = some (rsAll (rs line line.length)) := hx
  rw [hx']; rfl

/-! ### what is sure -/
theorem LineWays_p {line cl : List Int} (hl : line.length ≤ 20) (hc : okC cl) (hcl : cl.length ≤ 17592186043904) : ∃ f, gameroomref_LineWays_m line cl = some ((Ww cl line : Int), f) ∧ f.length = line.length ∧ ∀ i : Nat, i < line.length → geti f (i : Int) = (Fw cl line i : Int) := by
  have hW := Ww_le cl line
  have hW2 : 2 ^ line.length ≤ 2 ^ 20 := Nat.pow_le_pow_right (by omega) hl
  have gr : ∀ i : Nat, geti (List.replicate line.length (0 : Int)) (i : Int) = 0 := fun i => by
    rw [geti_nat, List.getD_eq_getElem?_getD, List.getElem?_replicate]
    split <;> rfl
  obtain ⟨f, h1, h2, h3⟩ := fill_F hl (cl.length + 1) cl [] (List.replicate line.length 0) (by omega) hc hcl (by simp) (by simp) (fun i hi => by simp at hi) (fun i hi => by
    rw [gr i]
    show _ ∧ 0 + (Ww cl line : Int) ≤ _
    omega)
  have h1' := gameroomref_lineFill_2_m_of _ _ _ _ _ h1
  unfold gameroomref_LineWays_m
  rw [asrt_pos (by unfold bigN; omega), Int.toNat_natCast, h1', Option.bind_some]
  refine ⟨f, rfl, h2, fun i hi => ?_⟩
  rw [h3 i hi, gr i]
  unfold addF
  rw [if_neg (by simp)]
  simp

theorem clone_p {l : List Int} (hl : l.length ≤ 17592186043904) : slices_Clone_m l = some l := by
  unfold slices_Clone_m slices_Clone_J1
  rw [asrt_pos (by unfold bigN; omega), List.nil_append]

/-- What is sure of a place. -/
def sureX (line cl : List Int) (j : Nat) : Int :=
  if Fw cl line j = Ww cl line then 1 else if Fw cl line j = 0 then 0 else geti line (j : Int)

theorem sureOf_p {line cl : List Int} (hl : line.length ≤ 20) (hc : okC cl) (hcl : cl.length ≤ 17592186043904) : gameroomref_SureOf_m line cl = some (mr line.length (sureX line cl), decide (0 < Ww cl line)) := by
  obtain ⟨f, h1, h2, h3⟩ := LineWays_p hl hc hcl
  unfold gameroomref_SureOf_m
  rw [h1, Option.bind_some, Ints_p (by omega), Option.bind_some]
  have hline : line = mr line.length (fun j => geti line (j : Int)) := by
    have := mr_self line
    rw [this, mr_length]
    exact mr_congr fun j hj => by rw [← this, geti_nat]
  have key := loop_from (step := gameroomref_SureOf_L1 line ((Ww cl line : Int), f) line) (s0 := (line, 0)) (r := mr line.length (sureX line cl)) (fun i => (mr line.length (fun j => if j < i then sureX line cl j else geti line (j : Int)), (i : Int))) line.length (by
    show (_, _) = (_, _)
    congr 1
    conv => rhs; rw [hline]
    exact mr_congr fun j hj => if_neg (by omega)) (by
    intro i hi
    have e1 : ∀ s : List Int, gameroomref_SureOf_L1 line ((Ww cl line : Int), f) line (s, (i : Int)) = gameroomref_SureOf_J2 ((Ww cl line : Int), f) line s (i : Int) := fun s => if_pos (decide_eq_true (by omega))
    rw [e1]
    unfold gameroomref_SureOf_J2 gameroomref_SureOf_J3
    dsimp only
    rw [asrt_pos (by omega), h3 i hi, w64_of (by omega)]
    by_cases c1 : Fw cl line i = Ww cl line
    · rw [if_pos (by rw [c1]; simp), asrt_pos (by omega), Int.toNat_natCast, mr_set]
      congr 3
      refine mr_congr fun j hj => ?_
      by_cases e : j = i
      · subst e; rw [if_pos rfl, if_pos (by omega)]; unfold sureX; rw [if_pos c1]
      · rw [if_neg e]
        by_cases e2 : j < i
        · rw [if_pos e2, if_pos (by omega)]
        · rw [if_neg e2, if_neg (by omega)]
    · rw [if_neg (by rw [beq_iff_eq]; omega), asrt_pos (by omega)]
      by_cases c2 : Fw cl line i = 0
      · rw [if_pos (by rw [c2]; rfl), asrt_pos (by omega), Int.toNat_natCast, mr_set]
        congr 3
        refine mr_congr fun j hj => ?_
        by_cases e : j = i
        · subst e; rw [if_pos rfl, if_pos (by omega)]; unfold sureX; rw [if_neg c1, if_pos c2]
        · rw [if_neg e]
          by_cases e2 : j < i
          · rw [if_pos e2, if_pos (by omega)]
          · rw [if_neg e2, if_neg (by omega)]
      · rw [if_neg (by rw [beq_iff_eq]; omega)]
        congr 3
        refine mr_congr fun j hj => ?_
        by_cases e : j = i
        · subst e; rw [if_neg (by omega), if_pos (by omega)]; unfold sureX; rw [if_neg c1, if_neg c2]
        · by_cases e2 : j < i
          · rw [if_pos e2, if_pos (by omega)]
          · rw [if_neg e2, if_neg (by omega)]) (by
    simp only [gameroomref_SureOf_L1]
    rw [if_neg (by simp)]
    congr 2
    exact mr_congr fun j hj => if_pos hj)
  rw [key, Option.bind_some]
  show some (_, decide ((0 : Int) < (Ww cl line : Int))) = _
  congr 2
  rw [decide_eq_decide]; omega

theorem sure_p {line cl : List Int} (hl : line.length ≤ 20) (hr : ∀ i : Nat, i < line.length → -1 ≤ geti line (i : Int) ∧ geti line (i : Int) ≤ 1) (hc : okC cl) (hcl : cl.length ≤ 17592186043904) :
    ∃ out, nono_sure_m line cl = some (out, decide (0 < Ww cl line)) ∧ (0 < Ww cl line → out = mr line.length (sureX line cl)) := by
  unfold nono_sure_m
  rw [ways_p hl hc hcl, Option.bind_some, clone_p (by omega), Option.bind_some, clone_p (by omega), Option.bind_some]
  have hline : line = mr line.length (fun j => geti line (j : Int)) := by
    have := mr_self line
    rw [this, mr_length]
    exact mr_congr fun j hj => by rw [← this, geti_nat]
  have key := count_loop (step := nono_sure_L1 cl (Ww cl line : Int) line line) (fun (o : List Int) (i : Nat) => (line, o, (i : Int))) (fun i o => o.length = line.length ∧ (0 < Ww cl line → o = mr line.length (fun j => if j < i then sureX line cl j else geti line (j : Int)))) (fun o => 0 < Ww cl line → o = mr line.length (sureX line cl)) line.length line ⟨rfl, fun _ => by
      conv => lhs; rw [hline]
      exact mr_congr fun j hj => by rw [if_neg (by omega)]⟩ (by
    rintro i o hi ⟨ho, hI⟩
    left
    have e1 : ∀ s : List Int, nono_sure_L1 cl (Ww cl line : Int) line line (line, s, (i : Int)) = nono_sure_J2 cl (Ww cl line : Int) line line line s (i : Int) := fun s => if_pos (decide_eq_true (by omega))
    rw [e1]
    unfold nono_sure_J2
    have hri := hr i hi
    have hgi := get_geti hi
    -- one more place
    have one : ∀ (o' : List Int), (0 < Ww cl line → o' = o.set i (sureX line cl i)) → 0 < Ww cl line → o' = mr line.length (fun j => if j < i + 1 then sureX line cl j else geti line (j : Int)) := by
      intro o' h hp
      rw [h hp, hI hp, mr_set]
      refine mr_congr fun j hj => ?_
      by_cases e : j = i
      · subst e; rw [if_pos rfl, if_pos (by omega)]
      · rw [if_neg e]
        by_cases e2 : j < i
        · rw [if_pos e2, if_pos (by omega)]
        · rw [if_neg e2, if_neg (by omega)]
    have self : ∀ (h : 0 < Ww cl line), o.set i (geti line (i : Int)) = o := fun h => by
      rw [hI h, mr_set]
      refine mr_congr fun j hj => ?_
      by_cases e : j = i
      · subst e; rw [if_pos rfl, if_neg (by omega)]
      · rw [if_neg e]
    rw [asrt_pos (by omega)]
    by_cases c1 : 0 ≤ geti line (i : Int) ∨ Ww cl line = 0
    · rw [if_pos (by simp only [Bool.or_eq_true, decide_eq_true_eq, beq_iff_eq]; omega)]
      unfold nono_sure_J3
      rw [w64_of (by omega)]
      refine ⟨o, rfl, ho, one o (fun hp => ?_)⟩
      have hx : sureX line cl i = geti line (i : Int) := by
        unfold sureX
        rcases (show geti line (i : Int) = 0 ∨ geti line (i : Int) = 1 by omega) with z | z
        · have := Fw_none cl hc line i (by rw [hgi, z])
          rw [this, if_neg (by omega), if_pos rfl, z]
        · have := Fw_set cl hc line i hi (by rw [hgi, z]; decide)
          have e : line.set i 1 = line := by
            apply List.ext_getElem?
            intro j
            rw [List.getElem?_set]
            split
            · rename_i q; subst q; rw [hgi, z]
            · rfl
          rw [this, e, if_pos rfl, z]
      rw [hx, self hp]
    · rw [if_neg (by simp only [Bool.or_eq_true, decide_eq_true_eq, beq_iff_eq]; omega)]
      unfold nono_sure_J4
      have hm : geti line (i : Int) = -1 := by omega
      have hset : (line.set i 1).length ≤ 20 := by rw [List.length_set]; exact hl
      have hF := Fw_set cl hc line i hi (by rw [hgi, hm]; decide)
      have back : (line.set i 1).set i (-1) = line := by
        rw [List.set_set]
        apply List.ext_getElem?
        intro j
        rw [List.getElem?_set]
        split
        · rename_i q; subst q; rw [hgi, hm]
        · rfl
      have J5 : ∀ o' : List Int, nono_sure_J5 line line i o' = some (.next (line, o', ((i + 1 : Nat) : Int))) := fun o' => by
        unfold nono_sure_J5 nono_sure_J3
        rw [asrt_pos (by omega), Int.toNat_natCast, back, w64_of (by omega)]; rfl
      rw [asrt_pos (by omega), Int.toNat_natCast, ways_p hset hc hcl, Option.bind_some, ← hF]
      by_cases c2 : Fw cl line i = Ww cl line
      · rw [if_pos (by rw [c2]; simp), asrt_pos (by omega), J5]
        refine ⟨_, rfl, by rw [List.length_set, ho], one _ (fun hp => ?_)⟩
        unfold sureX; rw [if_pos c2]
      · rw [if_neg (by rw [beq_iff_eq]; omega)]
        by_cases c3 : Fw cl line i = 0
        · rw [if_pos (by rw [c3]; rfl), asrt_pos (by omega), J5]
          refine ⟨_, rfl, by rw [List.length_set, ho], one _ (fun hp => ?_)⟩
          unfold sureX; rw [if_neg c2, if_pos c3]
        · rw [if_neg (by rw [beq_iff_eq]; omega), J5]
          refine ⟨_, rfl, ho, one _ (fun hp => ?_)⟩
          have hx : sureX line cl i = geti line (i : Int) := by unfold sureX; rw [if_neg c2, if_neg c3]
          rw [hx, self hp]) (by
    rintro o ⟨ho, hI⟩
    refine ⟨o, by simp only [nono_sure_L1]; rw [if_neg (by simp)], fun hp => ?_⟩
    rw [hI hp]
    exact mr_congr fun j hj => by rw [if_pos hj])
  obtain ⟨o, h1, h2⟩ := key
  have h1' : loop (nono_sure_L1 cl (Ww cl line : Int) line line) (line, line, 0) = some o := h1
  rw [h1', Option.bind_some]
  refine ⟨o, ?_, h2⟩
  show some (o, decide ((0 : Int) < (Ww cl line : Int))) = _
  congr 2
  rw [decide_eq_decide]; omega

end Go.Proofs.Ytdjjomghggplpaa
