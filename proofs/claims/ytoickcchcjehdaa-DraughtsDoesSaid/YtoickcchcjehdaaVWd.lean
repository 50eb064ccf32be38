/-
  DraughtsWays: all moves, sorted.
-/
import Derived.Test.YtoickcchcjehdaaVWc
namespace Go.Proofs.Ytoickcchcjehdaa
open Go Go.GL

/-- The jumps of a place, the steps of a place; in an order of directions. -/
def jAt (b : List Int) (s : Int) (dd : Int → Int → List Nat) (p : Nat) : List (List Int) :=
  if 0 < tof b s p then JS (tof b s) (crownP s (tof b s p)) (dd s (tof b s p)) p 13 p [(p : Int)] [] else []
def sAt (b : List Int) (s : Int) (dd : Int → Int → List Nat) (p : Nat) : List (List Int) :=
  if 0 < tof b s p then (dd s (tof b s p)).flatMap fun d => if nx p d != 0 && tof b s (nx p d) == 0 then [[(p : Int), ((nx p d : Nat) : Int)]] else [] else []
def allOf (f : Nat → List (List Int)) (k : Nat) : List (List Int) := (List.range k).flatMap fun i => f (i + 1)
theorem allOf_succ (f : Nat → List (List Int)) (k : Nat) : allOf f (k + 1) = allOf f k ++ f (k + 1) := by
  unfold allOf
  rw [List.range_succ, List.flatMap_append, List.flatMap_singleton]
theorem allOf_len {f : Nat → List (List Int)} {c : Nat} (h : ∀ p, (f p).length ≤ c) : ∀ k, (allOf f k).length ≤ k * c
  | 0 => by simp [allOf]
  | k + 1 => by
    rw [allOf_succ, List.length_append, Nat.add_mul, Nat.one_mul]
    have := allOf_len h k
    have := h (k + 1)
    omega
theorem allOf_row {f : Nat → List (List Int)} {c : Nat} (h : ∀ p, ∀ x ∈ f p, x.length ≤ c) : ∀ k, ∀ x ∈ allOf f k, x.length ≤ c := fun k x hx => by
  unfold allOf at hx
  rw [List.mem_flatMap] at hx
  obtain ⟨i, _, hx⟩ := hx
  exact h _ x hx

section
variable {b : List Int} {s : Int}
theorem dirsD_le (s pc : Int) : (dirsD s pc).length ≤ 4 := List.length_filter_le _ _
theorem jAt_len {dd : Int → Int → List Nat} (hd : ∀ s pc, (dd s pc).length ≤ 4) (p : Nat) : (jAt b s dd p).length ≤ 67108864 := by
  unfold jAt
  split
  · exact JS_len (hd _ _) 13 _ _ _
  · simp
theorem jAt_row {dd : Int → Int → List Nat} (p : Nat) : ∀ x ∈ jAt b s dd p, x.length ≤ 14 := fun x hx => by
  unfold jAt at hx
  split at hx
  · exact JS_row 13 _ _ _ x hx
  · cases hx
theorem flat_len1 {G : Nat → List (List Int)} (hG : ∀ d, (G d).length ≤ 1) : ∀ l : List Nat, (l.flatMap G).length ≤ l.length
  | [] => by simp
  | d :: l => by
    rw [List.flatMap_cons, List.length_append, List.length_cons]
    have := hG d
    have := flat_len1 hG l
    omega
theorem sAt_len {dd : Int → Int → List Nat} (hd : ∀ s pc, (dd s pc).length ≤ 4) (p : Nat) : (sAt b s dd p).length ≤ 4 := by
  unfold sAt
  split
  · exact Nat.le_trans (flat_len1 (fun d => by split <;> simp) _) (hd _ _)
  · simp
theorem sAt_row {dd : Int → Int → List Nat} (p : Nat) : ∀ x ∈ sAt b s dd p, x.length ≤ 14 := fun x hx => by
  unfold sAt at hx
  split at hx
  · rw [List.mem_flatMap] at hx
    obtain ⟨d, _, hx⟩ := hx
    split at hx
    · rw [List.mem_singleton] at hx
      rw [hx]; simp
    · cases hx
  · cases hx
theorem jAt_mem (p : Nat) (x : List Int) : x ∈ jAt b s dirsP p ↔ x ∈ jAt b s dirsD p := by
  unfold jAt
  split
  · exact JS_mem (dirs_mem s _) 13 _ _ _ x
  · exact Iff.rfl
theorem sAt_mem (p : Nat) (x : List Int) : x ∈ sAt b s dirsP p ↔ x ∈ sAt b s dirsD p := by
  unfold sAt
  split
  · rw [List.mem_flatMap, List.mem_flatMap]
    exact ⟨fun ⟨d, hd, hx⟩ => ⟨d, (dirs_mem s _ d).1 hd, hx⟩, fun ⟨d, hd, hx⟩ => ⟨d, (dirs_mem s _ d).2 hd, hx⟩⟩
  · exact Iff.rfl
theorem allOf_mem {f g : Nat → List (List Int)} (h : ∀ p x, x ∈ f p ↔ x ∈ g p) (k : Nat) (x : List Int) : x ∈ allOf f k ↔ x ∈ allOf g k := by
  unfold allOf
  rw [List.mem_flatMap, List.mem_flatMap]
  exact ⟨fun ⟨i, hi, hx⟩ => ⟨i, hi, (h _ _).1 hx⟩, fun ⟨i, hi, hx⟩ => ⟨i, hi, (h _ _).2 hx⟩⟩

/-- All moves. -/
def movesS (b : List Int) (s : Int) : List (List Int) := if (allOf (jAt b s dirsP) 32).isEmpty then compR (sortK cmpL (allOf (sAt b s dirsP) 32)) else compR (sortK cmpL (allOf (jAt b s dirsP) 32))

variable (h : Brd b s) (h12 : rem (tof b s) [] < 13)
include h
theorem steps_p {p : Nat} (hp1 : 1 ≤ p) (hp2 : p < 33) (out : List (List Int)) (ho : out.length ≤ 10000) (hx : 0 < tof b s p) : loop (draughts_play_moves_L3 b s (p : Int) ((dirsP s (tof b s p)).map fun (d : Nat) => (d : Int))) (out, 0) = some (out ++ sAt b s dirsP p) := by
  obtain ⟨hd4, hdl⟩ := dirs_lt s (tof b s p)
  unfold sAt
  rw [if_pos hx]
  generalize dirsP s (tof b s p) = ds at *
  generalize hG : (fun d => if nx p d != 0 && tof b s (nx p d) == 0 then [[(p : Int), ((nx p d : Nat) : Int)]] else []) = G
  have hGl : ∀ d, (G d).length ≤ 1 := fun d => by rw [← hG]; dsimp only; split <;> simp
  have flen : ∀ l : List Nat, (l.flatMap G).length ≤ l.length := by
    intro l
    induction l with
    | nil => simp
    | cons d l ih =>
      rw [List.flatMap_cons, List.length_append, List.length_cons]
      have := hGl d
      omega
  rw [loop_from (s0 := (out, (0 : Int))) (r := out ++ ds.flatMap G) (fun i => (out ++ (ds.take i).flatMap G, (i : Int))) ds.length ?_ (fun i hi => ?_) ?_]
  · show (out ++ ([] : List Nat).flatMap G, ((0 : Nat) : Int)) = _
    rw [List.flatMap_nil, List.append_nil]
    rfl
  · unfold draughts_play_moves_L3
    dsimp only
    rw [List.length_map, if_neg (by simp), List.take_length]
  · have hdi : ds[i] < 4 := hdl _ (List.getElem_mem hi)
    have htk : ds.take (i + 1) = ds.take i ++ [ds[i]] := by rw [List.take_add_one, List.getElem?_eq_getElem hi]; rfl
    have hgd : geti (ds.map fun (d : Nat) => (d : Int)) (i : Int) = ((ds[i] : Nat) : Int) := by
      rw [geti_bang (by simpa using hi), getElem!_pos _ i (by simpa using hi), List.getElem_map]
    have f1 := flen (ds.take i)
    rw [List.length_take] at f1
    unfold draughts_play_moves_L3 draughts_play_moves_J7
    dsimp only
    rw [if_pos (by rw [decide_eq_true_eq, List.length_map]; omega), asrt_pos (by rw [List.length_map]; omega), hgd, htk, List.flatMap_append, List.flatMap_singleton, ← List.append_assoc]
    generalize ds[i] = d at hdi ⊢
    have hlen : (out ++ (ds.take i).flatMap G).length ≤ 10004 := by rw [List.length_append]; omega
    generalize out ++ (ds.take i).flatMap G = cur at hlen ⊢
    obtain ⟨m1, m2⟩ := nx_m p hp2 d hdi hp1
    have J8 : ∀ q, draughts_play_moves_J8 (i : Int) q = some (.next (q, ((i + 1 : Nat) : Int))) := fun q => by
      unfold draughts_play_moves_J8
      rw [w64_of (by omega)]
      rfl
    rw [m1, Option.bind_some, ← hG]
    dsimp only
    by_cases z1 : nx p d = 0
    · rw [z1, if_neg (by decide), Option.bind_some, if_neg (by simp), J8, if_neg (by simp), List.append_nil]
    · rw [if_pos (by simp; omega), at_p h _ m2, Option.bind_some]
      by_cases z2 : tof b s (nx p d) = 0
      · rw [if_pos (by simp [z2]; omega), asrt_pos (by unfold bigR; omega), J8, if_pos (by simp [z1, z2])]
      · rw [if_neg (by simp [z2]), J8, if_neg (by simp [z2]), List.append_nil]

include h12
theorem moves_p : draughts_play_moves_m b s [] = some (movesS b s) := by
  have hj := allOf_len (f := jAt b s dirsP) (jAt_len (fun s pc => (dirs_lt s pc).1))
  have hs := allOf_len (f := sAt b s dirsP) (sAt_len (fun s pc => (dirs_lt s pc).1))
  unfold draughts_play_moves_m
  rw [loop_from (s0 := (([] : List (List Int)), (1 : Int))) (r := allOf (jAt b s dirsP) 32) (fun i => (allOf (jAt b s dirsP) i, ((i + 1 : Nat) : Int))) 32 rfl (fun i hi => ?_) rfl, Option.bind_some]
  · unfold draughts_play_moves_K1 draughts_play_moves_J1
    dsimp only
    have hJ4 : ∀ m : List (List Int), m.length ≤ 17592186044416 → draughts_play_moves_J4 m = some (compR (sortK cmpL m)) := fun m hm => by
      unfold draughts_play_moves_J4 slices_SortFunc_2_m slices_CompactFunc_2_m
      rw [asrt_pos (by unfold bigN; omega), Option.bind_some, asrt_pos (by rw [sortK_length]; unfold bigN; omega), Option.bind_some]
    unfold movesS
    have hj32 := hj 32
    cases he : (allOf (jAt b s dirsP) 32).isEmpty with
    | false =>
      have : (allOf (jAt b s dirsP) 32) ≠ [] := fun e => by rw [e] at he; cases he
      rw [if_neg (by simpa using this), hJ4 _ (by omega)]
      rfl
    | true =>
      have e0 : allOf (jAt b s dirsP) 32 = [] := List.isEmpty_iff.1 he
      rw [e0, if_pos (by rfl), loop_from (s0 := (([] : List (List Int)), (1 : Int))) (r := allOf (sAt b s dirsP) 32) (fun i => (allOf (sAt b s dirsP) i, ((i + 1 : Nat) : Int))) 32 rfl (fun i hi => ?_) rfl, Option.bind_some]
      · unfold draughts_play_moves_K2
        dsimp only
        rw [hJ4 _ (by have := hs 32; omega)]
        rfl
      · have hsi := hs i
        unfold draughts_play_moves_L2 draughts_play_moves_J5
        dsimp only
        rw [if_pos (by rw [decide_eq_true_eq]; omega), at_p h _ (show i + 1 < 33 by omega), Option.bind_some, allOf_succ]
        have J6 : ∀ q, draughts_play_moves_J6 ((i + 1 : Nat) : Int) q = some (.next (q, ((i + 1 + 1 : Nat) : Int))) := fun q => by
          unfold draughts_play_moves_J6
          rw [w64_of (by omega)]
          rfl
        by_cases hx : 0 < tof b s (i + 1)
        · rw [if_pos (by simpa using hx), dirs_p, Option.bind_some, steps_p h (by omega) (by omega) _ (by omega) hx, Option.bind_some]
          unfold draughts_play_moves_K3
          dsimp only
          rw [J6]
        · rw [if_neg (by simpa using hx), J6]
          unfold sAt
          rw [if_neg hx, List.append_nil]
  · have hji := hj i
    unfold draughts_play_moves_L1 draughts_play_moves_J2
    dsimp only
    rw [if_pos (by rw [decide_eq_true_eq]; omega), at_p h _ (show i + 1 < 33 by omega), Option.bind_some, allOf_succ]
    have J3 : ∀ q, draughts_play_moves_J3 ((i + 1 : Nat) : Int) q = some (.next (q, ((i + 1 + 1 : Nat) : Int))) := fun q => by
      unfold draughts_play_moves_J3
      rw [w64_of (by omega)]
      rfl
    by_cases hx : 0 < tof b s (i + 1)
    · rw [if_pos (by simpa using hx), Option.bind_some, draughts_play_jumps_2_m_of 13 _ _ _ _ _ _ (jumps_p h (tof b s (i + 1)) (st := i + 1) 13 (i + 1) [((i + 1 : Nat) : Int)] [] _ (by omega) (by omega) h12 (by simp) (by simp) (by simp) rfl rfl (by omega)), Option.bind_some, J3]
      have e : PS (tof b s) (crownP s (tof b s (i + 1))) (dirsP s (tof b s (i + 1))) (i + 1) 13 (i + 1) [((i + 1 : Nat) : Int)] [] = jAt b s dirsP (i + 1) := by
        unfold PS jAt
        rw [if_pos hx]
        cases hE : (JS (tof b s) (crownP s (tof b s (i + 1))) (dirsP s (tof b s (i + 1))) (i + 1) 13 (i + 1) [((i + 1 : Nat) : Int)] []).isEmpty with
        | true => rw [if_pos rfl, if_neg (by simp), List.isEmpty_iff.1 hE]
        | false => rfl
      rw [e]
    · rw [if_neg (by simpa using hx), J3]
      unfold jAt
      rw [if_neg hx, List.append_nil]
end
end Go.Proofs.Ytoickcchcjehdaa
