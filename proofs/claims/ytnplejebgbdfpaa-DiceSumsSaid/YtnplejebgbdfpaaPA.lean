/-
  Plain laws of the common functions: two lists alike, a copy, lists one behind the other.
-/
import Derived.Test.YtnplejebgbdfpaaNA
import Derived.Test.YtnplejebgbdfpaaLibN
namespace Go.Proofs.Ytnplejebgbdfpaa
open Go Go.GL

theorem ints_ok (l : List Int) (h : (l.length : Int) ≤ bigN) : gameroomlaw_ints_m l = some l := by
  unfold gameroomlaw_ints_m
  rw [asrt_pos (by simpa using h)]
  rfl
theorem clone_ok (l : List Int) (h : (l.length : Int) ≤ bigN) : slices_Clone_m l = some l := by
  unfold slices_Clone_m slices_Clone_J1
  rw [asrt_pos (by simpa using h)]
  rfl

theorem big_lt {n : Nat} (h : (n : Int) ≤ bigN) : n ≤ 17592186044416 := by unfold bigN at h; omega

theorem sameInts_ok (l m : List Int) (hb : (l.length : Int) ≤ bigN) : gameroomlaw_sameInts_m l m = some (decide (l = m)) := by
  have hb := big_lt hb
  unfold gameroomlaw_sameInts_m
  by_cases hl : l.length = m.length
  · rw [if_neg (by simp [hl])]
    unfold gameroomlaw_sameInts_J1
    by_cases h : l = m
    · subst h
      have key : loop (gameroomlaw_sameInts_L1 l l) 0 = some (.go ()) := by
        refine loop_from (fun i => (i : Int)) l.length rfl (fun i hi => ?_) ?_
        · simp only [gameroomlaw_sameInts_L1, gameroomlaw_sameInts_J3, gameroomlaw_sameInts_J4]
          rw [if_pos (by simp; omega), asrt_pos ⟨by omega, by omega⟩, asrt_pos ⟨by omega, by omega⟩, if_neg (by simp), w64_of (by omega)]
          rfl
        · simp only [gameroomlaw_sameInts_L1]
          rw [if_neg (by simp)]
      rw [key]
      simp [gameroomlaw_sameInts_K1, gameroomlaw_sameInts_J2]
    · have hx : ∃ i, i < l.length ∧ l.getD i 0 ≠ m.getD i 0 := by
        apply Classical.byContradiction
        intro hn
        apply h
        rw [mr_self l, mr_self m, hl]
        exact mr_congr fun j hj => by
          apply Classical.byContradiction
          intro hne
          exact hn ⟨j, by omega, hne⟩
      obtain ⟨k, ⟨hk, hne⟩, hmin⟩ := exists_least hx
      have key : loop (gameroomlaw_sameInts_L1 l m) 0 = some (.ret false) := by
        refine loop_from (fun i => (i : Int)) k rfl (fun i hi => ?_) ?_
        · have he : l.getD i 0 = m.getD i 0 := by
            apply Classical.byContradiction
            intro hne
            have := hmin i ⟨by omega, hne⟩
            omega
          simp only [gameroomlaw_sameInts_L1, gameroomlaw_sameInts_J3, gameroomlaw_sameInts_J4]
          rw [if_pos (by simp; omega), asrt_pos ⟨by omega, by omega⟩, asrt_pos ⟨by omega, by omega⟩, geti_nat, geti_nat, he, if_neg (by simp), w64_of (by omega)]
          rfl
        · simp only [gameroomlaw_sameInts_L1, gameroomlaw_sameInts_J3, gameroomlaw_sameInts_J4]
          rw [if_pos (by simp; omega), asrt_pos ⟨by omega, by omega⟩, asrt_pos ⟨by omega, by omega⟩, geti_nat, geti_nat, if_pos (by simpa using hne)]
      rw [key]
      simp [gameroomlaw_sameInts_K1, h]
  · have hne : l ≠ m := fun h => hl (by rw [h])
    rw [if_pos (by simp; omega)]
    simp [hne]

theorem geti2_nat (m : List (List Int)) (k : Nat) : geti2 m (k : Int) = m.getD k [] := by simp [geti2]

def tot (m : List (List Int)) : Nat := (m.map List.length).sum

theorem tot_take {m : List (List Int)} {i : Nat} (h : i < m.length) : tot (m.take (i + 1)) = tot (m.take i) + (m.getD i []).length := by
  unfold tot
  rw [List.take_succ_eq_append_getElem h, List.map_append, List.sum_append, List.getD_eq_getElem?_getD, List.getElem?_eq_getElem h]
  simp
theorem tot_le (m : List (List Int)) (i : Nat) : tot (m.take i) ≤ tot m := by
  unfold tot
  rw [← List.take_append_drop i m, List.map_append, List.sum_append]
  simp
theorem flat_len (m : List (List Int)) : m.flatten.length = tot m := by unfold tot; simp [List.length_flatten]

theorem grow_ok (n : Nat) (h : (n : Int) ≤ bigN) : slices_Grow_nil_m (n : Int) = some [] := by
  have hb := big_lt h
  have e0 : (([] : List Int).length : Int) = 0 := rfl
  have e1 : w64 (0 : Int) = 0 := w64_of (by omega)
  unfold slices_Grow_nil_m
  rw [if_neg (by simp)]
  unfold slices_Grow_nil_J1 slices_Grow_nil_J2
  have e2 : w64 ((n : Int)) = n := w64_of (by omega)
  simp only [e0, Int.sub_zero, e1, e2]
  by_cases hn : 0 < (n : Int)
  · rw [if_pos (by simpa using hn), asrt_pos ⟨by omega, h⟩, asrt_pos ⟨by omega, by omega, by simp⟩]
    simp [cut]
  · rw [if_neg (by simpa using hn)]

theorem concat_ok (m : List (List Int)) (hm : (m.length : Int) ≤ bigN) (h : (tot m : Int) ≤ bigN) : slices_Concat_m m = some m.flatten := by
  have hb := big_lt h
  have hl := big_lt hm
  have k1 : loop (slices_Concat_L1 m) (0, 0) = some ((tot m : Nat) : Int) := by
    refine loop_from (fun i => (((tot (m.take i) : Nat) : Int), (i : Int))) m.length (by simp [tot]) (fun i hi => ?_) ?_
    · have h1 := tot_take hi
      have h2 := tot_le m (i + 1)
      simp only [slices_Concat_L1, slices_Concat_J2, slices_Concat_J3]
      rw [if_pos (by simp; omega), asrt_pos ⟨by omega, by omega⟩, geti2_nat, w64_of (x := ((tot (m.take i) : Nat) : Int) + ((m.getD i []).length : Int)) (by omega), if_neg (by simp; omega), w64_of (by omega)]
      simp only [Option.some.injEq, St.next.injEq, Prod.mk.injEq]
      constructor <;> omega
    · simp only [slices_Concat_L1]
      rw [if_neg (by simp), List.take_length]
  have k2 : loop (slices_Concat_L2 m) (([] : List Int), 0) = some m.flatten := by
    refine loop_from (fun i => ((m.take i).flatten, (i : Int))) m.length (by simp) (fun i hi => ?_) ?_
    · have h1 := tot_take hi
      have h2 := tot_le m (i + 1)
      simp only [slices_Concat_L2, slices_Concat_J5, slices_Concat_J6]
      rw [if_pos (by simp; omega), asrt_pos ⟨by omega, by omega⟩, geti2_nat, asrt_pos (by unfold bigN; rw [flat_len]; omega), w64_of (by omega)]
      simp only [Option.some.injEq, St.next.injEq, Prod.mk.injEq]
      refine ⟨?_, by omega⟩
      rw [List.take_succ_eq_append_getElem hi, List.flatten_append, List.getD_eq_getElem?_getD, List.getElem?_eq_getElem hi]
      simp
    · simp only [slices_Concat_L2]
      rw [if_neg (by simp), List.take_length]
  unfold slices_Concat_m
  rw [k1]
  simp only [Option.bind_some, slices_Concat_K1, slices_Concat_J1]
  rw [grow_ok _ h]
  simp only [Option.bind_some]
  rw [k2]
  rfl

theorem cut_take (l : List Int) (n : Nat) : cut l 0 (n : Int) = l.take n := by simp [cut]
theorem cut_drop (l : List Int) (n : Nat) (h : n ≤ l.length) : cut l (n : Int) (l.length : Int) = l.drop n := by
  unfold cut
  rw [show (((l.length : Nat) : Int) - (n : Int)).toNat = l.length - n by omega, Int.toNat_natCast]
  exact List.take_of_length_le (by simp)

end Go.Proofs.Ytnplejebgbdfpaa
