/-
  Tours: what a list of places is; the places next; how far.
-/
import Derived.Test.YtlpaklmfgldkoaaDoorWTd
import Derived.Test.YtlpaklmfgldkoaaDoorLibE
import Derived.Test.YtlpaklmfgldkoaaDoorLibT
namespace Go.Proofs.YtlpaklmfgldkoaaDoor
open Go Go.GL

theorem stepB_symm (w a b : Nat) : stepB w a b = stepB w b a := by
  unfold stepB
  rw [decide_eq_decide]
  have e : (((a % w : Nat) : Int) - ((b % w : Nat) : Int)) * (((a / w : Nat) : Int) - ((b / w : Nat) : Int)) = (((b % w : Nat) : Int) - ((a % w : Nat) : Int)) * (((b / w : Nat) : Int) - ((a / w : Nat) : Int)) := by
    rw [← Int.neg_sub, ← Int.neg_sub ((b / w : Nat) : Int), Int.neg_mul_neg]
  rw [e]

theorem at_r {l : List Int} (n : Int) (hl : l.length ≤ 17592186044416) : ∃ v, gameroomref_at_m l n = some v ∧ (0 ≤ v ↔ n ∈ l) := by
  refine ⟨fidx (fun x => x == n) l, ?_, ?_⟩
  · unfold gameroomref_at_m
    rw [search_loop (l := l) (fun x => x == n) (fun i => Fl.ret (i : Int)) (Fl.go ()) ?_ ?_ ?_]
    · unfold fidx
      cases l.findIdx? (fun x => x == n) <;> rfl
    · intro i x hx hp
      have hb := idx_bd hx
      simp only [gameroomref_at_L1, gameroomref_at_J2]
      rw [if_pos (by simpa using hb.2), asrt_pos hb, geti_some hx]
      exact if_pos hp
    · intro i x hx hp
      have hb := idx_bd hx
      simp only [gameroomref_at_L1, gameroomref_at_J2]
      rw [if_pos (by simpa using hb.2), asrt_pos hb, geti_some hx, if_neg (by simpa using hp)]
      simp only [gameroomref_at_J3]
      rw [w64_succ (by omega)]
    · simp only [gameroomref_at_L1]
      rw [if_neg (by simp)]
  · rw [fidx_neg, List.any_eq_true]
    constructor
    · rintro ⟨x, hx, h⟩
      rw [beq_iff_eq] at h
      rw [← h]; exact hx
    · intro h
      exact ⟨n, h, by simp⟩

theorem contains_p {l : List Int} (v : Int) (hs : l.length ≤ 17592186044416) : slices_Contains_m l v = some (decide (v ∈ l)) := by
  unfold slices_Contains_m slices_Index_m
  rw [search_loop (l := l) (fun x => x == v) (fun i => Fl.ret (i : Int)) (Fl.go ()) ?_ ?_ ?_]
  · have hn := fidx_neg (fun x => x == v) l
    unfold fidx at hn
    have hm : l.any (fun x => x == v) = true ↔ v ∈ l := by
      rw [List.any_eq_true]
      constructor
      · rintro ⟨x, hx, h⟩
        rw [beq_iff_eq] at h
        rw [← h]; exact hx
      · intro h
        exact ⟨v, h, by simp⟩
    cases hf : l.findIdx? (fun x => x == v) with
    | none =>
      rw [hf] at hn
      have : ¬ v ∈ l := fun h => by have := hn.2 (hm.2 h); simp at this
      rw [decide_eq_false this]; rfl
    | some i =>
      rw [hf] at hn
      have : v ∈ l := hm.1 (hn.1 (by simp))
      rw [decide_eq_true this]
      simp [slices_Index_K1]
  · intro i x hx hp
    have hb := idx_bd hx
    simp only [slices_Index_L1, slices_Index_J2]
    rw [if_pos (by simpa using hb.2), asrt_pos hb, geti_some hx, if_pos (by rw [beq_iff_eq] at hp ⊢; exact hp.symm)]
  · intro i x hx hp
    have hb := idx_bd hx
    simp only [slices_Index_L1, slices_Index_J2]
    rw [if_pos (by simpa using hb.2), asrt_pos hb, geti_some hx, if_neg (by intro q; rw [beq_iff_eq] at q; rw [q] at hp; simp at hp)]
    simp only [slices_Index_J3]
    rw [w64_succ (by omega)]
  · simp only [slices_Index_L1]
    rw [if_neg (by simp)]

theorem nodup_len {l : List Int} {L : Nat} (h : l.Nodup) (hb : ∀ q ∈ l, ∃ b : Nat, b < L ∧ q = b) : l.length ≤ L := by
  have e : sortI l = ((List.range L).filter (fun (b : Nat) => decide ((b : Int) ∈ l))).map (fun (b : Nat) => (b : Int)) := by
    refine strict_ext (sortI_lt h) (filt_lt _ _) fun q => ?_
    rw [sortI_mem, List.mem_map]
    constructor
    · intro hq
      obtain ⟨b, h1, rfl⟩ := hb q hq
      exact ⟨b, by rw [List.mem_filter, List.mem_range, decide_eq_true_eq]; exact ⟨h1, hq⟩, rfl⟩
    · rintro ⟨b, h1, rfl⟩
      rw [List.mem_filter, decide_eq_true_eq] at h1
      exact h1.2
  have := congrArg List.length e
  rw [sortI_length, List.length_map] at this
  rw [this]
  refine Nat.le_trans (List.length_filter_le _ _) ?_
  rw [List.length_range]
  exact Nat.le_refl _

theorem walk_loop {S R : Type} {step : S → Option (St S R)} (mk : Nat → S) (P : Nat → Prop) (n : Nat) (hit fin : R)
    (hs : ∀ k, k < n → (∀ j, j < k → P j) → ¬ P k → step (mk k) = some (.done hit))
    (hn : ∀ k, k < n → (∀ j, j < k → P j) → P k → step (mk k) = some (.next (mk (k + 1))))
    (he : (∀ k, k < n → P k) → step (mk n) = some (.done fin)) :
    ((∀ k, k < n → P k) → loop step (mk 0) = some fin) ∧ (¬ (∀ k, k < n → P k) → loop step (mk 0) = some hit) := by
  have key : ∀ m k, k + m = n → (∀ j, j < k → P j) → ((∀ k, k < n → P k) → loop step (mk k) = some fin) ∧ (¬ (∀ k, k < n → P k) → loop step (mk k) = some hit) := by
    intro m
    induction m with
    | zero =>
      intro k hk hp
      have : k = n := by omega
      subst this
      exact ⟨fun h => loop_done (he h), fun h => absurd hp h⟩
    | succ m ih =>
      intro k hk hp
      by_cases hP : P k
      · have := ih (k + 1) (by omega) (fun j hj => by
          by_cases h : j = k
          · subst h; exact hP
          · exact hp j (by omega))
        exact ⟨fun h => loop_next' (hn k (by omega) hp hP) (this.1 h), fun h => loop_next' (hn k (by omega) hp hP) (this.2 h)⟩
      · exact ⟨fun h => absurd (h k (by omega)) hP, fun _ => loop_done (hs k (by omega) hp hP)⟩
  exact key n 0 (by omega) (fun j hj => by omega)

theorem mul_small : ∀ p : Nat, p < 101 → bits_Mul_m (IntKind.wrap .u64 ((([-1] : List Int).length : Nat) : Int)) (IntKind.wrap .u64 (p : Int)) = some (0, (p : Int)) := by decide +kernel

theorem rep_loop : ∀ p : Nat, p < 101 → 1 ≤ p → loopN (slices_Repeat_L1 (0, (p : Int))) 9 (putL (List.replicate (Int.toNat (w64 (p : Int))) (0 : Int)) 0 (List.take (Int.toNat (w64 (p : Int))) [-1]), minI (((Int.toNat (w64 (p : Int))) : Nat) : Int) ((([-1] : List Int).length : Nat) : Int)) = some (List.replicate p (-1)) := by decide +kernel

theorem rep_m1 {p : Nat} (h : 1 ≤ p ∧ p ≤ 100) : slices_Repeat_m ([-1] : List Int) (p : Int) = some (List.replicate p (-1)) := by
  unfold slices_Repeat_m
  rw [if_neg (by simp)]
  unfold slices_Repeat_J1
  rw [mul_small p (by omega), Option.bind_some]
  have e : ((decide ((0 : Int) < (0, (p : Int)).1)) || (decide ((9223372036854775807 : Int) < (0, (p : Int)).2))) = false := by
    rw [Bool.or_eq_false_iff, decide_eq_false_iff_not, decide_eq_false_iff_not]
    constructor
    · show ¬ (0 : Int) < 0
      decide
    · show ¬ (9223372036854775807 : Int) < (p : Int)
      omega
  rw [e, if_neg (by decide)]
  unfold slices_Repeat_J2
  rw [asrt_pos (by
    show (0 : Int) ≤ w64 (p : Int) ∧ w64 (p : Int) ≤ bigN
    rw [w64_of (by omega)]; unfold bigN; omega), loop_of (rep_loop p (by omega) (by omega)), Option.bind_some]
  rfl

theorem same_r {r : List Int} (hl : r.length ≤ 1000) : gameroomlaw_sameInts_m r r = some true := by
  unfold gameroomlaw_sameInts_m gameroomlaw_sameInts_J1
  rw [if_neg (by simp)]
  have e : loop (gameroomlaw_sameInts_L1 r r) 0 = some (.go ()) := by
    refine loop_from (f := fun i => (i : Int)) r.length (by rfl) (fun i hi => ?_) ?_
    · simp only [gameroomlaw_sameInts_L1]
      rw [if_pos (decide_eq_true (by omega))]
      unfold gameroomlaw_sameInts_J3 gameroomlaw_sameInts_J4
      rw [asrt_pos (by omega), asrt_pos (by omega), if_neg (by simp), w64_of (by omega)]; rfl
    · simp only [gameroomlaw_sameInts_L1]
      rw [if_neg (by simp)]
  rw [e]; rfl

section
variable {w h : Nat}
theorem at_one (hw : 1 ≤ w ∧ w ≤ 8) (hh : 1 ≤ h ∧ h ≤ 8) {f : Int} : tour_at_m w h [f] = some (field w h, if 0 ≤ f ∧ f < ((w * h : Nat) : Int) then 0 else 5) := by
  rw [at_good hw hh (by simp)]
  simp only [List.mem_singleton, forall_eq]

theorem FL_len {N s d : Nat} : (FL w N s d).length = N := by unfold FL; simp
theorem far_ok (hw : 1 ≤ w ∧ w ≤ 8) (hh : 1 ≤ h ∧ h ≤ 8) {s : Nat} (hs : s < w * h) : tour_Far_m w h s = some (FL w (w * h) s (w * h), 0) := by
  have hN := wh64 hw hh
  unfold tour_Far_m
  rw [at_one hw hh, if_pos (by omega), Option.bind_some, if_neg (by simp)]
  unfold tour_Far_J1
  rw [field_len, rep_m1 (by omega), Option.bind_some, asrt_pos (by simp; omega), Int.toNat_natCast]
  obtain ⟨r, e, hl, hv⟩ := far_queue hw hh (r2 := List.replicate (w * h) (-1)) (by simp) hs
  have e' : loop (tour_Far_L1 (field w h, 0) (List.replicate (w * h) (-1))) ((List.replicate (w * h) (-1 : Int)).set s 0, [(s : Int)]) = some r := e
  have hr : r = FL w (w * h) s (w * h) := ext_geti (by rw [hl, FL_len]) (fun i hi => by
    rw [hl] at hi
    rw [hv i hi]
    exact (geti_mapR hi).symm)
  rw [e', hr]
  rfl

theorem next_doc (hw : 1 ≤ w ∧ w ≤ 8) (hh : 1 ≤ h ∧ h ≤ 8) {p : Nat} (hp : p < w * h) : gameroomref_KnightNext_m w h p = some (knb w (w * h) p) := by
  have hN := wh64 hw hh
  unfold gameroomref_KnightNext_m
  have e : loop (gameroomref_KnightNext_L1 w h p) ([], 0) = some (knb w (w * h) p) := by
    refine loop_from (f := fun i => (((List.range i).filter (fun b => stepB w p b)).map (fun (b : Nat) => (b : Int)), (i : Int))) (w * h) (by rfl) (fun i hi => ?_) ?_
    · simp only [gameroomref_KnightNext_L1]
      rw [w64_wh hw hh, if_pos (decide_eq_true (by omega))]
      unfold gameroomref_KnightNext_J2 gameroomref_KnightNext_J3
      have hlen : (((List.range i).filter (fun b => stepB w p b)).map (fun (b : Nat) => (b : Int))).length ≤ 64 := by
        rw [List.length_map]
        exact Nat.le_trans (List.length_filter_le _ _) (by rw [List.length_range]; omega)
      rw [step_r hw (by omega) (by omega), Option.bind_some, w64_of (by omega), List.range_succ, List.filter_append, List.map_append]
      cases hb : stepB w p i with
      | true =>
        rw [if_pos rfl, asrt_pos (by unfold bigN; omega), show List.filter (fun b => stepB w p b) [i] = [i] by simp [hb]]
        rfl
      | false =>
        rw [if_neg (by decide), show List.filter (fun b => stepB w p b) [i] = [] by simp [hb], List.map_nil, List.append_nil]
        rfl
    · simp only [gameroomref_KnightNext_L1]
      rw [w64_wh hw hh, if_neg (by simp)]
      rfl
  rw [e]; rfl
theorem next_ok (hw : 1 ≤ w ∧ w ≤ 8) (hh : 1 ≤ h ∧ h ≤ 8) {p : Nat} (hp : p < w * h) : tour_Next_m w h p = some (knb w (w * h) p, 0) := by
  have hN := wh64 hw hh
  unfold tour_Next_m
  rw [at_one hw hh, if_pos (by omega), Option.bind_some, if_neg (by simp)]
  unfold tour_Next_J1
  simp only
  rw [asrt_pos (by rw [field_len]; omega), field_row hp]
end
end Go.Proofs.YtlpaklmfgldkoaaDoor
