/-
  Who wins a game in which places are taken in turn, in plain words; a table of what is known.
-/
import Derived.Test.YtfmmlmiakkjaiaaLibY
import Derived.Test.YtfmmlmiakkjaiaaLibAM
namespace Go.GL
open Go

section
variable {J : List Int → Int}

/-- Who wins: J tells who has joined (0: nobody). -/
def winF (J : List Int → Int) : Nat → List Int → Int → Int
  | 0, _, who => 3 - who
  | n + 1, c, who => if 0 < J c then J c else if (List.range c.length).any (fun i => geti c i == 0 && winF J n (c.set i who) (3 - who) == who) = true then who else 3 - who

theorem count_taken {c : List Int} {i : Nat} {who : Int} (hi : i < c.length) (h0 : geti c i = 0) (hw : who ≠ 0) : (c.set i who).count 0 + 1 = c.count 0 := by
  have hg : c[i] = 0 := by
    have := List.getElem?_eq_getElem hi
    rw [geti_some this] at h0
    exact h0
  have h1 : 0 < c.count 0 := List.count_pos_iff.2 (hg ▸ List.getElem_mem hi)
  rw [List.count_set hi]
  simp [hg, hw]
  omega

/-- More rounds than open places tell no more. -/
theorem winF_more : ∀ (n m : Nat) (c : List Int) (who : Int), who = 1 ∨ who = 2 → c.count 0 < n → c.count 0 < m → winF J n c who = winF J m c who
  | 0, _, c, _, _, h, _ => absurd h (Nat.not_lt_zero _)
  | _ + 1, 0, c, _, _, _, h => absurd h (Nat.not_lt_zero _)
  | n + 1, m + 1, c, who, hw, h1, h2 => by
    have e : (List.range c.length).any (fun i => geti c i == 0 && winF J n (c.set i who) (3 - who) == who) = (List.range c.length).any (fun i => geti c i == 0 && winF J m (c.set i who) (3 - who) == who) := by
      rw [Bool.eq_iff_iff, List.any_eq_true, List.any_eq_true]
      refine exists_congr fun i => and_congr_right fun hi => ?_
      rw [List.mem_range] at hi
      by_cases h0 : geti c i = 0
      · have hc := count_taken (who := who) hi h0 (by omega)
        rw [winF_more n m (c.set i who) (3 - who) (by omega) (by omega) (by omega)]
      · have : (geti c i == 0) = false := by simpa using h0
        rw [this]
        simp
    unfold winF
    rw [e]

def winV (J : List Int → Int) (c : List Int) (who : Int) : Int := winF J (c.count 0 + 1) c who

theorem winV_eq {c : List Int} {who : Int} (hw : who = 1 ∨ who = 2) : winV J c who = if 0 < J c then J c else if (List.range c.length).any (fun i => geti c i == 0 && winV J (c.set i who) (3 - who) == who) = true then who else 3 - who := by
  have e : (List.range c.length).any (fun i => geti c i == 0 && winF J (c.count 0) (c.set i who) (3 - who) == who) = (List.range c.length).any (fun i => geti c i == 0 && winV J (c.set i who) (3 - who) == who) := by
    rw [Bool.eq_iff_iff, List.any_eq_true, List.any_eq_true]
    refine exists_congr fun i => and_congr_right fun hi => ?_
    rw [List.mem_range] at hi
    by_cases h0 : geti c i = 0
    · have hc := count_taken (who := who) hi h0 (by omega)
      unfold winV
      rw [winF_more (c.count 0) ((c.set i who).count 0 + 1) (c.set i who) (3 - who) (by omega) (by omega) (by omega)]
    · have : (geti c i == 0) = false := by simpa using h0
      rw [this]
      simp
  rw [← e]
  rfl
end
end Go.GL
