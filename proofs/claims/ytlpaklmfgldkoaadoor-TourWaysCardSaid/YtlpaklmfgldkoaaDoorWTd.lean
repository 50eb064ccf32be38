/-
  Tours: how far each place is: the document's rounds.
-/
import Derived.Test.YtlpaklmfgldkoaaDoorWTc
namespace Go.Proofs.YtlpaklmfgldkoaaDoor
open Go Go.GL

section
variable {w h N s : Nat}
theorem geti_mapR {f : Nat → Int} {n k : Nat} (hk : k < n) : geti ((List.range n).map f) (k : Int) = f k := by
  rw [geti_nat, List.getD_eq_getElem?_getD, List.getElem?_map, List.getElem?_range hk]; rfl
theorem set_mapR {f g : Nat → Int} {n k : Nat} (_hk : k < n) (hg : ∀ p, p < n → p ≠ k → g p = f p) : ((List.range n).map f).set k (g k) = (List.range n).map g := by
  refine List.ext_getElem? (fun i => ?_)
  rw [List.getElem?_set, List.length_map, List.length_range, List.getElem?_map, List.getElem?_map]
  by_cases h : k = i
  · subst h
    rw [if_pos rfl, if_pos _hk, List.getElem?_range _hk]; rfl
  · rw [if_neg h]
    by_cases hi : i < n
    · rw [List.getElem?_range hi]
      simp [hg i hi (fun e => h e.symm)]
    · rw [List.getElem?_eq_none (by simp; omega)]; rfl

def HitR (w N s d a b x : Nat) : Prop := ∃ a', (a' < a ∨ a' = a ∧ x < b) ∧ Fr w N s d a' = (d : Int) ∧ stepB w a' x = true
open Classical in
noncomputable def GR (w N s d a b x : Nat) : Int := if 0 ≤ Fr w N s d x then Fr w N s d x else if HitR w N s d a b x then ((d + 1 : Nat) : Int) else -1
noncomputable def GL_ (w N s d a b : Nat) : List Int := (List.range N).map (GR w N s d a b)
noncomputable def FL (w N s d : Nat) : List Int := (List.range N).map (Fr w N s d)

theorem hit_succ {d a b x : Nat} : HitR w N s d a (b + 1) x ↔ HitR w N s d a b x ∨ (x = b ∧ Fr w N s d a = (d : Int) ∧ stepB w a x = true) := by
  constructor
  · rintro ⟨a', h1 | ⟨rfl, h1⟩, h2, h3⟩
    · exact .inl ⟨a', .inl h1, h2, h3⟩
    · by_cases hx : x = b
      · exact .inr ⟨hx, h2, h3⟩
      · exact .inl ⟨a', .inr ⟨rfl, by omega⟩, h2, h3⟩
  · rintro (⟨a', h1 | ⟨rfl, h1⟩, h2, h3⟩ | ⟨h1, h2, h3⟩)
    · exact ⟨a', .inl h1, h2, h3⟩
    · exact ⟨a', .inr ⟨rfl, by omega⟩, h2, h3⟩
    · exact ⟨a, .inr ⟨rfl, by omega⟩, h2, h3⟩
theorem hit_row {d a x : Nat} (hx : x < N) : HitR w N s d a N x ↔ HitR w N s d (a + 1) 0 x := by
  constructor
  · rintro ⟨a', h1, h2, h3⟩
    exact ⟨a', .inl (by omega), h2, h3⟩
  · rintro ⟨a', h1, h2, h3⟩
    refine ⟨a', ?_, h2, h3⟩
    omega
theorem GR_congr {d a b a2 b2 x : Nat} (h : HitR w N s d a b x ↔ HitR w N s d a2 b2 x) : GR w N s d a b x = GR w N s d a2 b2 x := by
  unfold GR
  by_cases q : HitR w N s d a b x
  · rw [if_pos q, if_pos (h.1 q)]
  · rw [if_neg q, if_neg (fun r => q (h.2 r))]
theorem GL_0 {d : Nat} : GL_ w N s d 0 0 = FL w N s d := by
  refine List.map_congr_left (fun x _ => ?_)
  have hbd := Fr_bd (w := w) (N := N) (s := s) d x
  unfold GR
  by_cases q : 0 ≤ Fr w N s d x
  · rw [if_pos q]
  · rw [if_neg q, if_neg]
    · omega
    · rintro ⟨a', h1, _⟩
      omega
theorem GL_row {d a : Nat} : GL_ w N s d a N = GL_ w N s d (a + 1) 0 := List.map_congr_left (fun x hx => GR_congr (hit_row (List.mem_range.1 hx)))
theorem GL_end {d : Nat} : GL_ w N s d N 0 = FL w N s (d + 1) := by
  refine List.map_congr_left (fun x _ => ?_)
  unfold GR
  simp only [Fr]
  have e : HitR w N s d N 0 x ↔ ∃ a, a < N ∧ Fr w N s d a = (d : Int) ∧ stepB w a x = true := by
    constructor
    · rintro ⟨a', h1, h2, h3⟩
      exact ⟨a', by omega, h2, h3⟩
    · rintro ⟨a', h1, h2, h3⟩
      exact ⟨a', .inl h1, h2, h3⟩
  by_cases q : HitR w N s d N 0 x
  · rw [if_pos q, if_pos (e.1 q)]
  · rw [if_neg q, if_neg (fun r => q (e.2 r))]
theorem GR_d {d a b x : Nat} : GR w N s d a b x = (d : Int) ↔ Fr w N s d x = (d : Int) := by
  have hbd := Fr_bd (w := w) (N := N) (s := s) d x
  unfold GR
  by_cases q : 0 ≤ Fr w N s d x
  · rw [if_pos q]
  · rw [if_neg q]
    constructor
    · intro r
      split at r <;> omega
    · intro r; omega
theorem GR_neg {d a b x : Nat} : GR w N s d a b x < 0 ↔ Fr w N s d x < 0 ∧ ¬ HitR w N s d a b x := by
  unfold GR
  by_cases q : 0 ≤ Fr w N s d x
  · rw [if_pos q]
    exact ⟨fun r => by omega, fun r => by omega⟩
  · rw [if_neg q]
    by_cases q2 : HitR w N s d a b x
    · rw [if_pos q2]
      exact ⟨fun r => by omega, fun r => absurd q2 r.2⟩
    · rw [if_neg q2]
      exact ⟨fun r => ⟨by omega, q2⟩, fun r => by omega⟩

theorem far4 (hw : 1 ≤ w ∧ w ≤ 8) (hh : 1 ≤ h ∧ h ≤ 8) {d a : Nat} (hd : d < w * h) (ha : a < w * h) : loop (gameroomref_KnightFar_L4 w h d a) (GL_ w (w * h) s d a 0, 0) = some (GL_ w (w * h) s d (a + 1) 0) := by
  have hN := wh64 hw hh
  rw [← GL_row]
  refine loop_from (f := fun b => (GL_ w (w * h) s d a b, (b : Int))) (w * h) (by rfl) (fun b hb => ?_) ?_
  · simp only [gameroomref_KnightFar_L4]
    rw [w64_wh hw hh, if_pos (decide_eq_true (by omega))]
    unfold gameroomref_KnightFar_J9 gameroomref_KnightFar_J10
    have ga : geti (GL_ w (w * h) s d a b) (a : Int) = GR w (w * h) s d a b a := geti_mapR ha
    have gb : geti (GL_ w (w * h) s d a b) (b : Int) = GR w (w * h) s d a b b := geti_mapR hb
    rw [w64_wh hw hh, Int.toNat_natCast, asrt_pos (by omega), asrt_pos (fun _ => by omega), ga, gb, step_r hw (by omega) (by omega), w64_of (x := (b : Int) + 1) (by omega), asrt_pos (by omega)]
    by_cases c1 : GR w (w * h) s d a b a = (d : Int) ∧ GR w (w * h) s d a b b < 0 ∧ stepB w a b = true
    · rw [beq_iff_eq.2 c1.1, decide_eq_true c1.2.1, c1.2.2]
      simp only [Bool.and_self, if_true, Option.bind_some, Int.toNat_natCast]
      rw [w64_of (by omega)]
      have hF := GR_d.1 c1.1
      have hs := set_mapR (f := GR w (w * h) s d a b) (g := GR w (w * h) s d a (b + 1)) hb (fun x _ hne => GR_congr (hit_succ.trans ⟨fun r => r.elim id (fun r => absurd r.1 hne), .inl⟩))
      have hv : GR w (w * h) s d a (b + 1) b = (d : Int) + 1 := by
        unfold GR
        rw [if_neg (by have := (GR_neg.1 c1.2.1).1; omega), if_pos (hit_succ.2 (.inr ⟨rfl, hF, c1.2.2⟩))]
        omega
      rw [hv] at hs
      exact congrArg (fun x => some (St.next (x, ((b + 1 : Nat) : Int)))) hs
    · have hst : GL_ w (w * h) s d a (b + 1) = GL_ w (w * h) s d a b := by
        refine List.map_congr_left (fun x _ => ?_)
        by_cases hx : x = b
        · subst hx
          by_cases c2 : GR w (w * h) s d a x x < 0
          · refine GR_congr (hit_succ.trans ⟨fun r => r.elim id (fun r => absurd ⟨GR_d.2 r.2.1, c2, r.2.2⟩ c1), .inl⟩)
          · by_cases c3 : HitR w (w * h) s d a x x
            · exact GR_congr (hit_succ.trans ⟨fun _ => c3, .inl⟩)
            · have : ¬ Fr w (w * h) s d x < 0 := fun r => c2 (GR_neg.2 ⟨r, c3⟩)
              unfold GR
              rw [if_pos (by omega), if_pos (by omega)]
        · exact GR_congr (hit_succ.trans ⟨fun r => r.elim id (fun r => absurd r.1 hx), .inl⟩)
      rw [hst]
      have hno : (((GR w (w * h) s d a b a == (d : Int)) && decide (GR w (w * h) s d a b b < 0)) && stepB w a b) = false := by
        rw [Bool.eq_false_iff]
        intro r
        simp only [Bool.and_eq_true, beq_iff_eq, decide_eq_true_eq] at r
        exact c1 ⟨r.1.1, r.1.2, r.2⟩
      cases c5 : ((GR w (w * h) s d a b a == (d : Int)) && decide (GR w (w * h) s d a b b < 0)) with
      | true =>
        rw [c5] at hno
        rw [if_pos rfl, Option.bind_some, hno, if_neg (by decide)]; rfl
      | false =>
        rw [if_neg (by decide), Option.bind_some, if_neg (by decide)]; rfl
  · simp only [gameroomref_KnightFar_L4]
    rw [w64_wh hw hh, if_neg (by simp)]

theorem far3 (hw : 1 ≤ w ∧ w ≤ 8) (hh : 1 ≤ h ∧ h ≤ 8) {d : Nat} (hd : d < w * h) : loop (gameroomref_KnightFar_L3 w h d) (FL w (w * h) s d, 0) = some (FL w (w * h) s (d + 1)) := by
  have hN := wh64 hw hh
  rw [← GL_0, ← GL_end]
  refine loop_from (f := fun a => (GL_ w (w * h) s d a 0, (a : Int))) (w * h) (by rfl) (fun a ha => ?_) ?_
  · simp only [gameroomref_KnightFar_L3]
    rw [w64_wh hw hh, if_pos (decide_eq_true (by omega))]
    unfold gameroomref_KnightFar_J7
    rw [far4 hw hh hd ha, Option.bind_some]
    simp only [gameroomref_KnightFar_K4, gameroomref_KnightFar_J8]
    rw [w64_of (by omega)]; rfl
  · simp only [gameroomref_KnightFar_L3]
    rw [w64_wh hw hh, if_neg (by simp)]

theorem far_doc (hw : 1 ≤ w ∧ w ≤ 8) (hh : 1 ≤ h ∧ h ≤ 8) (hs : s < w * h) : gameroomref_KnightFar_m w h s = some (FL w (w * h) s (w * h)) := by
  have hN := wh64 hw hh
  unfold gameroomref_KnightFar_m
  rw [w64_wh hw hh, asrt_pos (by unfold bigN; omega), Int.toNat_natCast]
  have h1 : loop (gameroomref_KnightFar_L1 w h) (List.replicate (w * h) (0 : Int), 0) = some (List.replicate (w * h) (-1)) := by
    have e0 : (List.range (w * h)).map (fun x => if x < 0 then (-1 : Int) else 0) = List.replicate (w * h) 0 := by
      simp only [Nat.not_lt_zero, if_false]
      rw [List.map_const', List.length_range]
    have e1 : (List.range (w * h)).map (fun x => if x < w * h then (-1 : Int) else 0) = List.replicate (w * h) (-1) := by
      rw [List.map_congr_left (g := fun _ => (-1 : Int)) (fun x hx => if_pos (List.mem_range.1 hx)), List.map_const', List.length_range]
    rw [← e0, ← e1]
    refine loop_from (f := fun i => ((List.range (w * h)).map (fun x => if x < i then (-1 : Int) else 0), (i : Int))) (w * h) (by rfl) (fun i hi => ?_) ?_
    · simp only [gameroomref_KnightFar_L1]
      rw [w64_wh hw hh, if_pos (decide_eq_true (by omega))]
      unfold gameroomref_KnightFar_J2 gameroomref_KnightFar_J3
      rw [w64_wh hw hh, Int.toNat_natCast, asrt_pos (by omega), Int.toNat_natCast, w64_of (by omega)]
      have hs := set_mapR (f := fun x => if x < i then (-1 : Int) else 0) (g := fun x => if x < i + 1 then (-1 : Int) else 0) hi (fun x _ hne => by
        by_cases q : x < i
        · simp only [if_pos q, if_pos (show x < i + 1 by omega)]
        · simp only [if_neg q, if_neg (show ¬ x < i + 1 by omega)])
      rw [if_pos (by omega)] at hs
      exact congrArg (fun x => some (St.next (x, ((i + 1 : Nat) : Int)))) hs
    · simp only [gameroomref_KnightFar_L1]
      rw [w64_wh hw hh, if_neg (by simp)]
  rw [h1, Option.bind_some]
  simp only [gameroomref_KnightFar_K1]
  unfold gameroomref_KnightFar_J1
  rw [w64_wh hw hh, Int.toNat_natCast, asrt_pos (by omega), Int.toNat_natCast]
  have h2 : (List.replicate (w * h) (-1 : Int)).set s 0 = FL w (w * h) s 0 := by
    have hs2 := set_mapR (f := fun _ => (-1 : Int)) (g := Fr w (w * h) s 0) hs (fun x _ hne => by simp only [Fr]; rw [if_neg hne])
    rw [List.map_const', List.length_range, show Fr w (w * h) s 0 s = 0 by simp [Fr]] at hs2
    exact hs2
  rw [h2]
  have h3 : loop (gameroomref_KnightFar_L2 w h) (FL w (w * h) s 0, 0) = some (FL w (w * h) s (w * h)) := by
    refine loop_from (f := fun d => (FL w (w * h) s d, (d : Int))) (w * h) (by rfl) (fun d hd => ?_) ?_
    · simp only [gameroomref_KnightFar_L2]
      rw [w64_wh hw hh, if_pos (decide_eq_true (by omega))]
      unfold gameroomref_KnightFar_J5
      rw [far3 hw hh hd, Option.bind_some]
      simp only [gameroomref_KnightFar_K3, gameroomref_KnightFar_J6]
      rw [w64_of (by omega)]; rfl
    · simp only [gameroomref_KnightFar_L2]
      rw [w64_wh hw hh, if_neg (by simp)]
  rw [h3]; rfl
end
end Go.Proofs.YtlpaklmfgldkoaaDoor
