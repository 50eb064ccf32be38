/-
  Tours: walks of so many steps.
-/
import Derived.Test.YtlpaklmfgldkoaaDoorTOa
namespace Go.Proofs.YtlpaklmfgldkoaaDoor
open Go Go.GL

def updW (v : Int) (nx : List Int) (b : Int) : List Int := nx.set b.toNat (w64 (geti nx b + v))
def stepW (w N : Nat) (many : List Int) (a : Nat) (nx : List Int) : List Int := (knb w N a).foldl (updW (geti many (a : Int))) nx
def nextW (w N : Nat) (many : List Int) : List Int := (List.range N).foldl (fun nx a => stepW w N many a nx) (List.replicate N 0)
def iterW (w N from_ : Nat) : Nat → List Int
  | 0 => (List.replicate N 0).set from_ 1
  | s + 1 => nextW w N (iterW w N from_ s)

theorem fold_len (v : Int) : ∀ (l nx : List Int), (l.foldl (updW v) nx).length = nx.length
  | [], nx => rfl
  | x :: l, nx => by
    rw [List.foldl_cons, fold_len v l]
    unfold updW
    rw [List.length_set]
theorem next_len (w N : Nat) (many : List Int) : ∀ (l : List Nat) (nx : List Int), (l.foldl (fun nx a => stepW w N many a nx) nx).length = nx.length
  | [], nx => rfl
  | x :: l, nx => by
    rw [List.foldl_cons, next_len w N many l]
    exact fold_len _ _ _
theorem iter_len (w N f s : Nat) : (iterW w N f s).length = N := by
  cases s with
  | zero => simp [iterW]
  | succ s =>
    show (nextW w N _).length = N
    unfold nextW
    rw [next_len, List.length_replicate]

theorem take_nextI {l : List Int} {i : Nat} (h : i < l.length) : l.take (i + 1) = l.take i ++ [geti l (i : Int)] := by
  have g := get_geti h
  rw [List.getElem?_eq_getElem h] at g
  rw [List.take_succ_eq_append_getElem h, Option.some.inj g]

section
variable {w h : Nat}

theorem row_in {p z : Nat} (hz : z < (knb w (w * h) p).length) : ∃ b : Nat, geti (knb w (w * h) p) (z : Int) = (b : Int) ∧ b < w * h ∧ stepB w p b = true := by
  obtain ⟨b, h1, h2, h3⟩ := knb_mem.1 (List.mem_of_getElem? (get_geti hz))
  exact ⟨b, h2, h1, h3⟩

theorem inner_w (hw : 1 ≤ w ∧ w ≤ 8) (hh : 1 ≤ h ∧ h ≤ 8) {many nx : List Int} {a : Nat} (ha : a < w * h) : loop (tour_Walks_L3 (field w h, 0) many a) (nx, 0) = some (stepW w (w * h) many a nx) := by
  have hN := wh64 hw hh
  have hl := knb_len (w := w) (N := w * h) (p := a)
  refine loop_from (f := fun z => (((knb w (w * h) a).take z).foldl (updW (geti many (a : Int))) nx, (z : Int))) (knb w (w * h) a).length (by rfl) (fun z hz => ?_) ?_
  · obtain ⟨b, hb, hb2, _⟩ := row_in hz
    simp only [tour_Walks_L3]
    rw [field_row ha, if_pos (decide_eq_true (by omega))]
    unfold tour_Walks_J8 tour_Walks_J9
    rw [field_row ha, asrt_pos (by omega), field_len, Int.toNat_natCast, asrt_pos (by omega), asrt_pos (by omega), w64_of (x := (z : Int) + 1) (by omega), take_nextI hz, List.foldl_append]
    rfl
  · simp only [tour_Walks_L3]
    rw [field_row ha, if_neg (by simp), List.take_length]
    rfl

theorem outer_w (hw : 1 ≤ w ∧ w ≤ 8) (hh : 1 ≤ h ∧ h ≤ 8) {many : List Int} (hm : many.length = w * h) : loop (tour_Walks_L2 (field w h, 0) many) (List.replicate (w * h) (0 : Int), 0) = some (nextW w (w * h) many) := by
  have hN := wh64 hw hh
  refine loop_from (f := fun z => ((List.range z).foldl (fun nx a => stepW w (w * h) many a nx) (List.replicate (w * h) 0), (z : Int))) (w * h) (by rfl) (fun z hz => ?_) ?_
  · simp only [tour_Walks_L2]
    rw [hm, if_pos (decide_eq_true (by omega))]
    unfold tour_Walks_J6
    rw [asrt_pos (by omega), field_len, asrt_pos (by omega), inner_w hw hh hz, Option.bind_some]
    simp only [tour_Walks_K3, tour_Walks_J7]
    rw [w64_of (by omega), List.range_succ, List.foldl_append]
    rfl
  · simp only [tour_Walks_L2]
    rw [hm, if_neg (by simp)]
    rfl

theorem walks_p (hw : 1 ≤ w ∧ w ≤ 8) (hh : 1 ≤ h ∧ h ≤ 8) {f t s : Nat} (hf : f < w * h) (ht : t < w * h) (hs : s ≤ 12) : tour_Walks_J1 f t s (field w h, 0) = some (geti (iterW w (w * h) f s) (t : Int), 0) := by
  have hN := wh64 hw hh
  unfold tour_Walks_J1
  rw [field_len, asrt_pos (by unfold bigN; omega), Int.toNat_natCast, asrt_pos (by omega), Int.toNat_natCast]
  have hl : loop (tour_Walks_L1 s (field w h, 0)) ((List.replicate (w * h) (0 : Int)).set f 1, 0) = some (iterW w (w * h) f s) := by
    refine loop_from (f := fun z => (iterW w (w * h) f z, (z : Int))) s (by rfl) (fun z hz => ?_) ?_
    · simp only [tour_Walks_L1]
      rw [if_pos (decide_eq_true (by omega))]
      unfold tour_Walks_J3
      rw [field_len, asrt_pos (by unfold bigN; omega), Int.toNat_natCast, outer_w hw hh (iter_len _ _ _ _), Option.bind_some]
      simp only [tour_Walks_K2, tour_Walks_J5, tour_Walks_J4]
      rw [w64_of (by omega)]
      rfl
    · simp only [tour_Walks_L1]
      rw [if_neg (by simp)]
  rw [hl, Option.bind_some]
  simp only [tour_Walks_K1, tour_Walks_J2]
  rw [iter_len, asrt_pos (by omega)]

/-! ### The document -/
theorem inner_r (hw : 1 ≤ w ∧ w ≤ 8) (hh : 1 ≤ h ∧ h ≤ 8) {many nx : List Int} (hm : many.length = w * h) {a : Nat} (ha : a < w * h) : loop (gameroomref_KnightWalks_L2 w h many a) (nx, 0) = some (stepW w (w * h) many a nx) := by
  have hN := wh64 hw hh
  refine loop_from (f := fun z => ((((List.range z).filter (fun b => stepB w a b)).map (fun (b : Nat) => (b : Int))).foldl (updW (geti many (a : Int))) nx, (z : Int))) (w * h) (by rfl) (fun z hz => ?_) ?_
  · simp only [gameroomref_KnightWalks_L2]
    rw [w64_wh hw hh, if_pos (decide_eq_true (by omega))]
    unfold gameroomref_KnightWalks_J5 gameroomref_KnightWalks_J6
    rw [step_r hw (by omega) (by omega), Option.bind_some, w64_of (x := (z : Int) + 1) (by omega), List.range_succ, List.filter_append, List.map_append, List.foldl_append]
    cases hb : stepB w a z with
    | true =>
      rw [if_pos rfl, w64_wh hw hh, Int.toNat_natCast, asrt_pos (by omega), asrt_pos (by omega), asrt_pos (by omega), show List.filter (fun b => stepB w a b) [z] = [z] by simp [hb]]
      rfl
    | false =>
      rw [if_neg (by decide), show List.filter (fun b => stepB w a b) [z] = [] by simp [hb]]
      rfl
  · simp only [gameroomref_KnightWalks_L2]
    rw [w64_wh hw hh, if_neg (by simp)]
    rfl

theorem walks_r (hw : 1 ≤ w ∧ w ≤ 8) (hh : 1 ≤ h ∧ h ≤ 8) {f : Nat} (hf : f < w * h) : ∀ s : Nat, s ≤ 100 → gameroomref_KnightWalks_mF (s + 1) w h f s = some (iterW w (w * h) f s)
  | 0, _ => by
    have hN := wh64 hw hh
    show gameroomref_KnightWalks_B (gameroomref_KnightWalks_mF 0) w h f 0 = _
    unfold gameroomref_KnightWalks_B
    rw [w64_wh hw hh, asrt_pos (by unfold bigN; omega), if_pos (by decide), Int.toNat_natCast, asrt_pos (by omega), Int.toNat_natCast]
    rfl
  | s + 1, hs => by
    have hN := wh64 hw hh
    show gameroomref_KnightWalks_B (gameroomref_KnightWalks_mF (s + 1)) w h f ((s + 1 : Nat) : Int) = _
    unfold gameroomref_KnightWalks_B gameroomref_KnightWalks_J1
    rw [w64_wh hw hh, asrt_pos (by unfold bigN; omega), if_neg (by rw [beq_iff_eq]; omega), w64_of (x := ((s + 1 : Nat) : Int) - 1) (by omega), show ((s + 1 : Nat) : Int) - 1 = (s : Int) by omega, walks_r hw hh hf s (by omega), Option.bind_some, Int.toNat_natCast]
    have hl : loop (gameroomref_KnightWalks_L1 w h (iterW w (w * h) f s)) (List.replicate (w * h) (0 : Int), 0) = some (nextW w (w * h) (iterW w (w * h) f s)) := by
      refine loop_from (f := fun z => ((List.range z).foldl (fun nx a => stepW w (w * h) (iterW w (w * h) f s) a nx) (List.replicate (w * h) 0), (z : Int))) (w * h) (by rfl) (fun z hz => ?_) ?_
      · simp only [gameroomref_KnightWalks_L1]
        rw [w64_wh hw hh, if_pos (decide_eq_true (by omega))]
        unfold gameroomref_KnightWalks_J3
        rw [inner_r hw hh (iter_len _ _ _ _) hz, Option.bind_some]
        simp only [gameroomref_KnightWalks_K2, gameroomref_KnightWalks_J4]
        rw [w64_of (by omega), List.range_succ, List.foldl_append]
        rfl
      · simp only [gameroomref_KnightWalks_L1]
        rw [w64_wh hw hh, if_neg (by simp)]
        rfl
    rw [hl]
    rfl
end
end Go.Proofs.YtlpaklmfgldkoaaDoor
