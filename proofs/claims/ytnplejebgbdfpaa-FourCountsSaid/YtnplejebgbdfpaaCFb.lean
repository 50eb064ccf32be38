/-
  Four: who is to move.
-/
import Derived.Test.YtnplejebgbdfpaaCFa
namespace Go.Proofs.Ytnplejebgbdfpaa
open Go Go.GL

theorem count_take {c : List Int} {i : Nat} {x v : Int} (h : c[i]? = some x) : (c.take (i + 1)).count v = (c.take i).count v + if x = v then 1 else 0 := by
  rw [List.take_add_one, h, List.count_append]
  simp [List.count_cons]

def leadG (c : List Int) : Int := (c.count 1 : Int) - c.count 2
def moverG (c : List Int) : Int := if leadG c = 0 then 1 else if leadG c = 1 then 2 else 0

theorem mover_eq (W H : Int) {c : List Int} (hs : c.length ≤ 17592186044416) : gameroomref_GridMover_m W H c = some (moverG c) := by
  unfold gameroomref_GridMover_m
  have key : ∃ r, loop (gameroomref_GridMover_L1 c) (0, 0) = some r ∧ r = leadG c := by
    refine count_loop (step := gameroomref_GridMover_L1 c) (fun (s : Int) (i : Nat) => (s, (i : Int))) (fun i s => s = ((c.take i).count 1 : Int) - (c.take i).count 2) (fun r => r = leadG c) c.length 0 (by simp) ?_ ?_
    · intro i s hi hI
      left
      have hx : c[i]? = some (geti c i) := by rw [List.getElem?_eq_getElem hi]; congr 1; exact (geti_some (List.getElem?_eq_getElem hi)).symm
      have b1 : (c.take i).count 1 ≤ i := by have := List.count_le_length (a := (1 : Int)) (l := c.take i); simp at this; omega
      have b2 : (c.take i).count 2 ≤ i := by have := List.count_le_length (a := (2 : Int)) (l := c.take i); simp at this; omega
      have e1 : gameroomref_GridMover_L1 c (s, (i : Int)) = gameroomref_GridMover_J2 c s i := if_pos (by simp; omega)
      refine ⟨s + (if geti c i = 1 then 1 else 0) - (if geti c i = 2 then 1 else 0), ?_, ?_⟩
      · rw [e1]
        unfold gameroomref_GridMover_J2 gameroomref_GridMover_J4 gameroomref_GridMover_J3
        rw [asrt_pos (by omega)]
        by_cases q1 : geti c i = 1
        · rw [if_pos (by simpa using q1), asrt_pos (by omega), if_neg (by simp; omega), if_pos q1, if_neg (by omega), w64_of (x := s + 1) (by omega), w64_of (by omega)]
          simp
        · rw [if_neg (by simpa using q1), asrt_pos (by omega), if_neg q1]
          by_cases q2 : geti c i = 2
          · rw [if_pos (by simpa using q2), if_pos q2, w64_of (x := s - 1) (by omega), w64_of (by omega)]
            simp
          · rw [if_neg (by simpa using q2), if_neg q2, w64_of (by omega)]
            simp
      · rw [count_take hx, count_take hx, hI]
        split <;> split <;> omega
    · intro s hI
      refine ⟨s, if_neg (by simp), ?_⟩
      rw [hI, List.take_length]; rfl
  obtain ⟨r, hr, rfl⟩ := key
  rw [hr]
  simp only [Option.bind_some, gameroomref_GridMover_K1, gameroomref_GridMover_J1, gameroomref_GridMover_J5, gameroomref_GridMover_J6]
  unfold moverG
  by_cases q1 : leadG c = 0
  · rw [if_pos (by simpa using q1), if_pos q1]
  · rw [if_neg (by simpa using q1), if_neg q1]
    by_cases q2 : leadG c = 1
    · rw [if_pos (by simpa using q2), if_pos q2]
    · rw [if_neg (by simpa using q2), if_neg q2]


end Go.Proofs.Ytnplejebgbdfpaa
