/-
  Plain law for hall's books: the law answers true.
-/
import Derived.Test.YtlpaklmfgldkoaaHBb
namespace Go.Proofs.Ytlpaklmfgldkoaa
open Go Go.GL

theorem same_p (l : List (List UInt8)) (hl : l.length ≤ 9223372036854775806) : gameroomref_SameTexts_m l l = some true := by
  unfold gameroomref_SameTexts_m gameroomref_SameTexts_J1
  rw [if_neg (by simp)]
  have : loop (gameroomref_SameTexts_L1 l l) 0 = some (Fl.go () : Fl Unit Bool) := by
    refine loop_from (f := fun k => (k : Int)) l.length rfl (fun k hk => ?_) ?_
    · simp only [gameroomref_SameTexts_L1, gameroomref_SameTexts_J3, gameroomref_SameTexts_J4]
      rw [if_pos (by simpa using hk), asrt_pos (by omega), asrt_pos (by omega), if_neg (by simp), w64_of (by omega)]
      rfl
    · simp only [gameroomref_SameTexts_L1]
      rw [if_neg (by simp)]
  rw [this]
  rfl

/-- What Add answers. -/
def addv (o : List (List UInt8) × Int × Int) (b : List Int) (line : List UInt8) : List Int × Int :=
  if o.2.2 ≠ 0 then ([], o.2.2) else if 255 < line.length then ([], 1) else if 4000 < o.2.1 + 4 + line.length then ([], 2) else (cut b 0 o.2.1 ++ ent line, 0)

theorem add_p {b : List Int} {line : List UInt8} {o : List (List UInt8) × Int × Int} (h : hall_Open_m b = some o) (ho : o.2.2 = 0 → 4 ≤ o.2.1 ∧ o.2.1 ≤ b.length ∧ b.length ≤ 4000) :
    hall_Add_m b line = some (addv o b line) := by
  unfold hall_Add_m
  rw [h, Option.bind_some]
  by_cases h0 : o.2.2 = 0
  · obtain ⟨h1, h2, h3⟩ := ho h0
    rw [if_neg (by simp [h0])]
    by_cases h4 : 255 < line.length
    · have e : addv o b line = ([], 1) := by unfold addv; rw [if_neg (by simp [h0]), if_pos h4]
      rw [if_pos (by simp only [decide_eq_true_eq]; omega), e]
    · rw [if_neg (by simp only [decide_eq_true_eq]; omega), w64_of (x := o.2.1 + 4) (by omega), w64_of (x := o.2.1 + 4 + line.length) (by omega)]
      by_cases h5 : 4000 < o.2.1 + 4 + (line.length : Int)
      · have e : addv o b line = ([], 2) := by unfold addv; rw [if_neg (by simp [h0]), if_neg h4, if_pos h5]
        rw [if_pos (by simpa using h5), e]
      · have e : addv o b line = (cut b 0 o.2.1 ++ ent line, 0) := by unfold addv; rw [if_neg (by simp [h0]), if_neg h4, if_neg h5]
        have hc : ((cut b 0 o.2.1).length : Int) ≤ 4000 := by rw [cut_length (by omega) (by omega) (by omega)]; omega
        have hb1 := bigB_of (n := 0) (k := ((cut b 0 o.2.1).length : Int)) (by omega)
        have hb2 := bigB_of (n := ((([] : List Int) ++ cut b 0 o.2.1).length : Int)) (k := ((ent line).length : Int)) (by rw [ent_length, List.nil_append]; omega)
        rw [if_neg (by simpa using h5), e]
        unfold hall_Add_J1
        rw [asrt_pos (by omega), asrt_pos hb1, entry_p (by omega), Option.bind_some, asrt_pos hb2]
        rfl
  · have e : addv o b line = ([], o.2.2) := by unfold addv; rw [if_pos h0]
    rw [if_pos (by simpa using h0), e]

theorem tail_p {b : List Int} {line : List UInt8} {o : List (List UInt8) × Int × Int} (ho : o.2.2 = 0 → 4 ≤ o.2.1 ∧ o.2.1 ≤ b.length ∧ b.length ≤ 4000) (hl : line.length ≤ 9223372036854775807) :
    gameroomlaw_HallBooks_J1 b line (addv o b line) o = some true := by
  unfold gameroomlaw_HallBooks_J1
  by_cases h0 : o.2.2 = 0
  · obtain ⟨h1, h2, h3⟩ := ho h0
    by_cases h4 : 255 < line.length
    · have e : addv o b line = ([], 1) := by unfold addv; rw [if_neg (by simp [h0]), if_pos h4]
      rw [if_pos (by simp only [h0, beq_self_eq_true, Bool.true_and, decide_eq_true_eq]; omega), e]
      unfold gameroomlaw_HallBooks_J3
      rw [if_neg (by simp)]
      rfl
    · rw [if_neg (by simp only [h0, beq_self_eq_true, Bool.true_and, decide_eq_true_eq]; omega), h0]
      unfold gameroomlaw_HallBooks_J3
      rw [w64_of (x := o.2.1 + 4) (by omega), w64_of (x := o.2.1 + 4 + line.length) (by omega)]
      by_cases h5 : 4000 < o.2.1 + 4 + (line.length : Int)
      · have e : addv o b line = ([], 2) := by unfold addv; rw [if_neg (by simp [h0]), if_neg h4, if_pos h5]
        rw [if_pos (by simpa using h5), e]
        rfl
      · have e : addv o b line = (cut b 0 o.2.1 ++ ent line, 0) := by unfold addv; rw [if_neg (by simp [h0]), if_neg h4, if_neg h5]
        have hc : ((cut b 0 o.2.1).length : Int) ≤ 4000 := by rw [cut_length (by omega) (by omega) (by omega)]; omega
        have hb1 := bigB_of (n := 0) (k := ((cut b 0 o.2.1).length : Int)) (by omega)
        have hb2 := bigB_of (n := ((([] : List Int) ++ cut b 0 o.2.1).length : Int)) (k := ((ent line).length : Int)) (by rw [ent_length, List.nil_append]; omega)
        rw [if_neg (by simpa using h5), e]
        unfold gameroomlaw_HallBooks_J4 gameroomlaw_HallBooks_J5 gameroomlaw_HallBooks_J6
        rw [if_neg (by simp), asrt_pos (by omega), asrt_pos hb1, entry_d (by omega), Option.bind_some, asrt_pos hb2]
        simp
  · have e : addv o b line = ([], o.2.2) := by unfold addv; rw [if_pos h0]
    rw [if_neg (by simp [h0]), e]
    unfold gameroomlaw_HallBooks_J3
    rw [if_neg (by simp [h0])]
    unfold gameroomlaw_HallBooks_J4
    rw [if_pos (by simpa using h0)]
    simp

theorem true_HallBooks (x0 : List (List UInt8)) (x1 : List Int) (x2 : List UInt8) (h0 : x0.length ≤ 8796093022208) (_h0 : ∀ s ∈ x0, s.length ≤ 9223372036854775807) (h1 : x1.length ≤ 140737488351232) (h1' : ∀ x ∈ x1, 0 ≤ x ∧ x < 256) (h2 : x2.length ≤ 9223372036854775807) :
    gameroomlaw_HallBooks_m x0 x1 x2 = some true := by
  obtain ⟨hp, hd⟩ := book_p h0
  obtain ⟨o, ho1, ho2, ho3, ho4⟩ := open_p (b := x1) h1'
  have ha := add_p (line := x2) ho1 ho4
  have ht := tail_p (line := x2) ho4 h2
  have hs := same_p o.1 (by omega)
  have hP : (0 : Int) + (x0.length : Int) ≤ bigP := by unfold bigP; omega
  have hB : (0 : Int) + (x1.length : Int) ≤ bigB := by unfold bigB; omega
  generalize (if x0.any (fun x => decide (255 < x.length)) then (([] : List Int), (1 : Int)) else bkf x0 [72, 65, 76, 76]) = R at hp hd
  unfold gameroomlaw_HallBooks_m gameroomlaw_texts_m
  rw [asrt_pos hP, Option.bind_some, List.nil_append, List.nil_append, hp, Option.bind_some, asrt_pos hB, ho1, Option.bind_some, asrt_pos hB, ha, Option.bind_some, hd, Option.bind_some, ho2, Option.bind_some]
  rw [if_neg (by simp)]
  simp only [bne_self_eq_false, beq_self_eq_true, Bool.not_true, Bool.or_false, Bool.not_false, if_true, hs, Option.bind_some]
  unfold gameroomlaw_HallBooks_J2
  rw [if_neg (by simp)]
  exact ht
end Go.Proofs.Ytlpaklmfgldkoaa
