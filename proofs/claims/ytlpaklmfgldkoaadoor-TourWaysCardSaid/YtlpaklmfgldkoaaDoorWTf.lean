/-
  Tours: what a list of places is.
-/
import Derived.Test.YtlpaklmfgldkoaaDoorWTe
namespace Go.Proofs.YtlpaklmfgldkoaaDoor
open Go Go.GL

section
variable {w h : Nat}

def InP (N : Nat) (l : List Int) (k : Nat) : Prop := 0 ≤ geti l (k : Int) ∧ geti l (k : Int) < (N : Int)
def P1 (N : Nat) (l : List Int) (k : Nat) : Prop := InP N l k ∧ geti l (k : Int) ∉ l.take k
def P2 (w : Nat) (l : List Int) (k : Nat) : Prop := stepB w (geti l (k : Int)).toNat (geti l ((k + 1 : Nat) : Int)).toNat = true
def PA (w N : Nat) (l : List Int) (k : Nat) : Prop := P1 N l k ∧ ∀ j, k = j + 1 → P2 w l j
def seenL (N : Nat) (l : List Int) (k : Nat) : List Bool := (List.range N).map (fun (x : Nat) => decide ((x : Int) ∈ l.take k))

theorem getb_nat (l : List Bool) (k : Nat) : getb l (k : Int) = l.getD k false := by simp [getb]
theorem getb_mapR {f : Nat → Bool} {n k : Nat} (hk : k < n) : getb ((List.range n).map f) (k : Int) = f k := by
  rw [getb_nat, List.getD_eq_getElem?_getD, List.getElem?_map, List.getElem?_range hk]; rfl
theorem seen_next {N : Nat} {l : List Int} {k b : Nat} (hk : k < l.length) (hb : b < N) (hl : geti l (k : Int) = (b : Int)) : (seenL N l k).set b true = seenL N l (k + 1) := by
  unfold seenL
  refine List.ext_getElem? (fun i => ?_)
  rw [List.getElem?_set, List.length_map, List.length_range, List.getElem?_map, List.getElem?_map]
  have hm : ∀ x : Nat, (x : Int) ∈ l.take (k + 1) ↔ (x : Int) ∈ l.take k ∨ x = b := by
    intro x
    rw [takeK hk, List.mem_append, List.mem_singleton, hl, Int.natCast_inj]
  by_cases h : b = i
  · subst h
    rw [if_pos rfl, if_pos hb, List.getElem?_range hb]
    simp [(hm b).2 (.inr rfl)]
  · rw [if_neg h]
    by_cases hi : i < N
    · rw [List.getElem?_range hi]
      have : (i : Int) ∈ l.take (k + 1) ↔ (i : Int) ∈ l.take k := by
        rw [hm i]
        exact ⟨fun r => r.resolve_right (fun e => h e.symm), .inl⟩
      simp [this]
    · rw [List.getElem?_eq_none (by simp; omega)]; rfl

theorem is_step (_hw : 1 ≤ w ∧ w ≤ 8) (hN : w * h ≤ 64) {l : List Int} (hl : l.length ≤ 17592186044416) {k : Nat} (hk : k < l.length) (hp : ∀ j, j < k → PA w (w * h) l j) :
    (PA w (w * h) l k → tour_Is_L1 l (field w h, 0) (seenL (w * h) l k, (k : Int)) = some (.next (seenL (w * h) l (k + 1), ((k + 1 : Nat) : Int)))) ∧
    (¬ PA w (w * h) l k → tour_Is_L1 l (field w h, 0) (seenL (w * h) l k, (k : Int)) = some (.done (.ret (0, 0)))) := by
  simp only [tour_Is_L1]
  rw [if_pos (decide_eq_true (by omega))]
  unfold tour_Is_J4
  rw [asrt_pos (by omega), has_p, Option.bind_some, field_len]
  by_cases c1 : 0 ≤ geti l (k : Int) ∧ geti l (k : Int) < ((w * h : Nat) : Int)
  · rw [decide_eq_true c1]
    obtain ⟨b, hb⟩ : ∃ b : Nat, geti l (k : Int) = (b : Int) := ⟨(geti l (k : Int)).toNat, by omega⟩
    have hbN : b < w * h := by omega
    have hsb : getb (seenL (w * h) l k) (b : Int) = decide ((b : Int) ∈ l.take k) := getb_mapR hbN
    rw [hb, hsb, asrt_pos (fun _ => by rw [Int.toNat_natCast]; omega)]
    by_cases c2 : (b : Int) ∈ l.take k
    · rw [decide_eq_true c2]
      rw [asrt_pos (fun _ q => by simp at q), asrt_pos (fun _ q => by simp at q)]
      simp only [Bool.not_true, Bool.or_true, Bool.and_false, Bool.false_eq_true, if_false, Option.bind_some, Bool.true_or, if_true]
      refine ⟨fun q => absurd c2 ?_, fun _ => by first | trivial | rfl⟩
      have := q.1.2
      rw [hb] at this
      exact this
    · rw [decide_eq_false c2]
      have hP1 : P1 (w * h) l k := ⟨c1, by rw [hb]; exact c2⟩
      by_cases c3 : k = 0
      · subst c3
        rw [asrt_pos (fun q => by simp at q), asrt_pos (fun q => by simp at q)]
        simp only [Int.natCast_zero, Int.lt_irrefl, decide_false, Bool.false_and, Bool.false_eq_true, if_false, Option.bind_some, Bool.not_true, Bool.or_false, Bool.not_false]
        refine ⟨fun _ => ?_, fun q => absurd ⟨hP1, fun j hj => by omega⟩ q⟩
        unfold tour_Is_J6 tour_Is_J5
        have hb0 : geti l 0 = (b : Int) := hb
        rw [hb0, field_len, Int.toNat_natCast, Int.toNat_natCast, asrt_pos (by omega), w64_of (by omega), seen_next hk hbN hb]
        rfl
      · obtain ⟨j, rfl⟩ : ∃ j, k = j + 1 := ⟨k - 1, by omega⟩
        have hpj := (hp j (by omega)).1.1
        unfold InP at hpj
        obtain ⟨a, ha⟩ : ∃ a : Nat, geti l (j : Int) = (a : Int) := ⟨(geti l (j : Int)).toNat, by omega⟩
        rw [ha] at hpj
        have haN : a < w * h := by omega
        rw [w64_of (x := ((j + 1 : Nat) : Int) - 1) (by omega), show ((j + 1 : Nat) : Int) - 1 = (j : Int) by omega, ha]
        rw [asrt_pos (fun _ _ => by omega), asrt_pos (fun _ _ => by omega), decide_eq_true (show (0 : Int) < ((j + 1 : Nat) : Int) by omega)]
        simp only [Bool.not_true, Bool.or_false, Bool.not_false, Bool.and_self, if_true, Bool.true_and, Bool.false_or]
        have hkl := knb_len (w := w) (N := w * h) (p := a)
        rw [field_row haN, contains_p _ (by omega), Option.bind_some]
        have hP2 : P2 w l j ↔ stepB w a b = true := by unfold P2; rw [ha, hb]; simp
        by_cases c4 : stepB w a b = true
        · rw [decide_eq_true ((knb_in hbN).2 c4)]
          simp only [Bool.not_true, Bool.false_eq_true, if_false]
          refine ⟨fun _ => ?_, fun q => absurd ⟨hP1, fun j' hj => by obtain rfl : j' = j := by omega
                                                                     exact hP2.2 c4⟩ q⟩
          unfold tour_Is_J6 tour_Is_J5
          rw [hb, field_len, Int.toNat_natCast, Int.toNat_natCast, asrt_pos (by omega), w64_of (by omega), seen_next hk hbN hb]
          rfl
        · rw [decide_eq_false (fun q => c4 ((knb_in hbN).1 q))]
          simp only [Bool.not_false, if_true]
          exact ⟨fun q => absurd (hP2.1 (q.2 j rfl)) c4, fun _ => by first | trivial | rfl⟩
  · rw [decide_eq_false c1]
    rw [asrt_pos (fun q => by simp at q), asrt_pos (fun _ q => by simp at q), asrt_pos (fun _ q => by simp at q)]
    simp only [Bool.not_false, Bool.true_or, Bool.not_true, Bool.and_false, Bool.false_eq_true, if_false, Option.bind_some, if_true]
    exact ⟨fun q => absurd q.1.1 c1, fun _ => by first | trivial | rfl⟩

theorem nodup_of {N : Nat} {l : List Int} (hp : ∀ k, k < l.length → P1 N l k) : l.Nodup := by
  have key : ∀ k, k ≤ l.length → (l.take k).Nodup := by
    intro k
    induction k with
    | zero => intro _; simp
    | succ k ih =>
      intro hk
      rw [takeK (by omega), List.nodup_append]
      refine ⟨ih (by omega), by simp, fun a ha b hb => ?_⟩
      rw [List.mem_singleton] at hb
      subst hb
      intro e
      subst e
      exact (hp k (by omega)).2 ha
  have := key l.length (Nat.le_refl _)
  rwa [List.take_length] at this
theorem len_of {N : Nat} {l : List Int} (hp : ∀ k, k < l.length → P1 N l k) : l.length ≤ N := by
  refine nodup_len (nodup_of hp) (fun q hq => ?_)
  obtain ⟨i, hi, e⟩ := List.mem_iff_getElem.1 hq
  have g := get_geti hi
  rw [List.getElem?_eq_getElem hi] at g
  have g' := Option.some.inj g
  have h1 := (hp i hi).1
  unfold InP at h1
  rw [← g', e] at h1
  exact ⟨q.toNat, by omega, by omega⟩

/-! ### The document -/
theorem is1_step (hw : 1 ≤ w ∧ w ≤ 8) (hh : 1 ≤ h ∧ h ≤ 8) {l : List Int} (hl : l.length ≤ 17592186044416) {k : Nat} (hk : k < l.length) :
    (P1 (w * h) l k → gameroomref_KnightIs_L1 w h l (k : Int) = some (.next ((k + 1 : Nat) : Int))) ∧ (¬ P1 (w * h) l k → gameroomref_KnightIs_L1 w h l (k : Int) = some (.done (.ret 0))) := by
  have hN := wh64 hw hh
  simp only [gameroomref_KnightIs_L1]
  rw [if_pos (decide_eq_true (by omega))]
  unfold gameroomref_KnightIs_J3 gameroomref_within_m
  rw [asrt_pos (by omega), w64_wh hw hh, w64_of (x := ((w * h : Nat) : Int) - 1) (by omega), Option.bind_some]
  by_cases c1 : 0 ≤ geti l (k : Int) ∧ geti l (k : Int) < ((w * h : Nat) : Int)
  · have e1 : (decide ((0 : Int) ≤ geti l (k : Int)) && decide (geti l (k : Int) ≤ ((w * h : Nat) : Int) - 1)) = true := by
      rw [Bool.and_eq_true, decide_eq_true_eq, decide_eq_true_eq]; omega
    rw [e1, asrt_pos (fun _ => by omega), asrt_pos (fun _ => by omega)]
    simp only [Bool.not_true, Bool.not_false, if_true, Bool.false_or]
    have ec : cut l (0 : Int) (k : Int) = l.take k := by unfold cut; simp
    obtain ⟨v, e, hv⟩ := at_r (l := l.take k) (geti l (k : Int)) (by rw [List.length_take]; omega)
    rw [ec, e, Option.bind_some]
    by_cases c2 : geti l (k : Int) ∈ l.take k
    · rw [decide_eq_true (hv.2 c2), if_pos rfl]
      exact ⟨fun q => absurd c2 q.2, fun _ => rfl⟩
    · rw [decide_eq_false (fun q => c2 (hv.1 q)), if_neg (by decide)]
      unfold gameroomref_KnightIs_J4
      rw [w64_of (by omega)]
      exact ⟨fun _ => rfl, fun q => absurd ⟨c1, c2⟩ q⟩
  · have e1 : (decide ((0 : Int) ≤ geti l (k : Int)) && decide (geti l (k : Int) ≤ ((w * h : Nat) : Int) - 1)) = false := by
      rw [Bool.eq_false_iff]
      intro q
      rw [Bool.and_eq_true, decide_eq_true_eq, decide_eq_true_eq] at q
      omega
    rw [e1, asrt_pos (fun q => by simp at q), asrt_pos (fun q => by simp at q)]
    simp only [Bool.not_false, Bool.not_true, Bool.false_eq_true, if_false, Option.bind_some, Bool.true_or, if_true]
    exact ⟨fun q => absurd q.1 c1, fun _ => by first | trivial | rfl⟩

theorem is2_step (hw : 1 ≤ w ∧ w ≤ 8) (hh : 1 ≤ h ∧ h ≤ 8) {l : List Int} (hl : l.length ≤ 17592186044416) (hp : ∀ k, k < l.length → P1 (w * h) l k) {k : Nat} (hk : k < l.length - 1) :
    (P2 w l k → gameroomref_KnightIs_L2 w l ((k + 1 : Nat) : Int) = some (.next ((k + 1 + 1 : Nat) : Int))) ∧ (¬ P2 w l k → gameroomref_KnightIs_L2 w l ((k + 1 : Nat) : Int) = some (.done (.ret 0))) := by
  have hN := wh64 hw hh
  have h1 := (hp k (by omega)).1
  have h2 := (hp (k + 1) (by omega)).1
  unfold InP at h1 h2
  simp only [gameroomref_KnightIs_L2]
  rw [if_pos (decide_eq_true (by omega))]
  unfold gameroomref_KnightIs_J6 P2
  rw [w64_of (x := ((k + 1 : Nat) : Int) - 1) (by omega), show ((k + 1 : Nat) : Int) - 1 = (k : Int) by omega, asrt_pos (by omega), asrt_pos (by omega)]
  obtain ⟨a, ha⟩ : ∃ a : Nat, geti l (k : Int) = (a : Int) := ⟨(geti l (k : Int)).toNat, by omega⟩
  obtain ⟨b, hb⟩ : ∃ b : Nat, geti l ((k + 1 : Nat) : Int) = (b : Int) := ⟨(geti l ((k + 1 : Nat) : Int)).toNat, by omega⟩
  rw [ha] at h1 ⊢
  rw [hb] at h2 ⊢
  rw [step_r hw (by omega) (by omega), Option.bind_some, Int.toNat_natCast, Int.toNat_natCast]
  cases stepB w a b with
  | true =>
    unfold gameroomref_KnightIs_J7
    rw [w64_of (by omega)]
    exact ⟨fun _ => rfl, fun q => absurd rfl q⟩
  | false => exact ⟨fun q => by simp at q, fun _ => rfl⟩

theorem is_ok (hw : 1 ≤ w ∧ w ≤ 8) (hh : 1 ≤ h ∧ h ≤ 8) {l : List Int} (hl : l.length ≤ 17592186044416) : ∃ v, tour_Is_m w h l = some (v, 0) ∧ gameroomref_KnightIs_m w h l = some v := by
  have hN := wh64 hw hh
  unfold tour_Is_m gameroomref_KnightIs_m
  rw [field_p hw hh, Option.bind_some, if_neg (by simp)]
  unfold tour_Is_J1
  simp only
  rw [field_len]
  by_cases h0 : l.length = 0
  · refine ⟨0, ?_, ?_⟩
    · rw [if_pos (by rw [Bool.or_eq_true, beq_iff_eq]; left; omega)]
    · rw [if_pos (by rw [beq_iff_eq]; omega)]
  · rw [if_neg (c := ((l.length : Int) == 0) = true) (by rw [beq_iff_eq]; omega)]
    unfold gameroomref_KnightIs_J1
    have hd1 := walk_loop (step := gameroomref_KnightIs_L1 w h l) (fun k => (k : Int)) (P1 (w * h) l) l.length (.ret 0) (.go ()) (fun k hk _ q => (is1_step hw hh hl hk).2 q) (fun k hk _ q => (is1_step hw hh hl hk).1 q) (fun _ => by
      simp only [gameroomref_KnightIs_L1]
      rw [if_neg (by simp)])
    by_cases hbig : w * h < l.length
    · refine ⟨0, ?_, ?_⟩
      · rw [if_pos (by rw [Bool.or_eq_true, decide_eq_true_eq]; right; omega)]
      · have e := hd1.2 (fun q => by have := len_of q; omega)
        have e' : loop (gameroomref_KnightIs_L1 w h l) 0 = some (.ret 0) := e
        rw [e']; rfl
    · rw [if_neg (by rw [Bool.or_eq_true, beq_iff_eq, decide_eq_true_eq]; omega)]
      unfold tour_Is_J2
      simp only
      rw [field_len, asrt_pos (by unfold bigN; omega), Int.toNat_natCast]
      have hs0 : List.replicate (w * h) false = seenL (w * h) l 0 := by
        unfold seenL
        simp only [List.take_zero, List.not_mem_nil, decide_false]
        rw [List.map_const', List.length_range]
      have hp1 := walk_loop (step := tour_Is_L1 l (field w h, 0)) (fun k => (seenL (w * h) l k, (k : Int))) (PA w (w * h) l) l.length (.ret (0, 0)) (.go ()) (fun k hk q1 q => (is_step hw hN hl hk q1).2 q) (fun k hk q1 q => (is_step hw hN hl hk q1).1 q) (fun _ => by
        simp only [tour_Is_L1]
        rw [if_neg (by simp)])
      rw [hs0]
      by_cases hA1 : ∀ k, k < l.length → P1 (w * h) l k
      · have e1 : loop (gameroomref_KnightIs_L1 w h l) 0 = some (.go ()) := hd1.1 hA1
        rw [e1, Option.bind_some]
        simp only [gameroomref_KnightIs_K1]
        unfold gameroomref_KnightIs_J2
        have hd2 := walk_loop (step := gameroomref_KnightIs_L2 w l) (fun k => ((k + 1 : Nat) : Int)) (P2 w l) (l.length - 1) (.ret 0) (.go ()) (fun k hk _ q => (is2_step hw hh hl hA1 hk).2 q) (fun k hk _ q => (is2_step hw hh hl hA1 hk).1 q) (fun _ => by
          simp only [gameroomref_KnightIs_L2]
          rw [if_neg (by rw [decide_eq_true_eq]; omega)])
        by_cases hA2 : ∀ k, k < l.length - 1 → P2 w l k
        · have e2 : loop (gameroomref_KnightIs_L2 w l) 1 = some (.go ()) := hd2.1 hA2
          have e3 : loop (tour_Is_L1 l (field w h, 0)) (seenL (w * h) l 0, 0) = some (.go ()) := hp1.1 (fun k hk => ⟨hA1 k hk, fun j hj => hA2 j (by omega)⟩)
          rw [e2, e3, Option.bind_some, Option.bind_some]
          simp only [gameroomref_KnightIs_K2, tour_Is_K1]
          by_cases hlt : l.length < w * h
          · refine ⟨1, ?_, ?_⟩
            · unfold tour_Is_J3
              simp only
              rw [field_len, if_pos (decide_eq_true (by omega))]
            · unfold gameroomref_KnightIs_J5
              rw [w64_wh hw hh, if_pos (decide_eq_true (by omega))]
          · have hz := (hA1 0 (by omega)).1
            have hy := (hA1 (l.length - 1) (by omega)).1
            unfold InP at hz hy
            obtain ⟨a, ha⟩ : ∃ a : Nat, geti l ((0 : Nat) : Int) = (a : Int) := ⟨(geti l ((0 : Nat) : Int)).toNat, by omega⟩
            obtain ⟨b, hb⟩ : ∃ b : Nat, geti l ((l.length - 1 : Nat) : Int) = (b : Int) := ⟨(geti l ((l.length - 1 : Nat) : Int)).toNat, by omega⟩
            rw [ha] at hz
            rw [hb] at hy
            have ha' : geti l 0 = (a : Int) := ha
            have haN : a < w * h := by omega
            have hbN : b < w * h := by omega
            have e4 : gameroomref_KnightIs_J5 w h l = some (if stepB w a b = true then 3 else 2) := by
              unfold gameroomref_KnightIs_J5
              rw [w64_wh hw hh, if_neg (by rw [decide_eq_true_eq]; omega)]
              unfold gameroomref_KnightIs_J8 gameroomref_KnightIs_J9
              rw [w64_of (x := (l.length : Int) - 1) (by omega), show (l.length : Int) - 1 = ((l.length - 1 : Nat) : Int) by omega, ha', hb, step_r hw (by omega) (by omega), asrt_pos (by omega), asrt_pos (by omega), Option.bind_some]
              cases stepB w a b <;> rfl
            have e5 : tour_Is_J3 l (field w h, 0) = some (if stepB w a b = true then 3 else 2, 0) := by
              unfold tour_Is_J3
              simp only
              rw [field_len, if_neg (c := decide ((l.length : Int) < ((w * h : Nat) : Int)) = true) (by rw [decide_eq_true_eq]; omega)]
              unfold tour_Is_J7
              rw [w64_of (x := (l.length : Int) - 1) (by omega), show (l.length : Int) - 1 = ((l.length - 1 : Nat) : Int) by omega, ha', hb, asrt_pos (fun _ => by omega), asrt_pos (fun _ => by omega), asrt_pos (fun _ => by omega)]
              have hkl := knb_len (w := w) (N := w * h) (p := b)
              rw [field_row hbN, contains_p _ (by omega)]
              by_cases hone : l.length = 1
              · have hab : a = b := by
                  rw [hone] at hb
                  have : geti l ((0 : Nat) : Int) = (b : Int) := hb
                  rw [ha] at this
                  omega
                subst hab
                have hst : stepB w a a = false := by unfold stepB; simp
                rw [hst, decide_eq_false (show ¬ (1 : Int) < (l.length : Int) by omega)]
                rfl
              · rw [decide_eq_true (show (1 : Int) < (l.length : Int) by omega)]
                cases hst : stepB w a b with
                | true =>
                  rw [if_pos rfl, decide_eq_true ((knb_in haN).2 (by rw [stepB_symm]; exact hst))]
                  rfl
                | false =>
                  rw [if_pos rfl, decide_eq_false (fun q => by have := (knb_in haN).1 q; rw [stepB_symm, hst] at this; cases this)]
                  rfl
            exact ⟨_, e5, e4⟩
        · have e2 : loop (gameroomref_KnightIs_L2 w l) 1 = some (.ret 0) := hd2.2 hA2
          have e3 : loop (tour_Is_L1 l (field w h, 0)) (seenL (w * h) l 0, 0) = some (.ret (0, 0)) := hp1.2 (fun q => hA2 (fun k hk => (q (k + 1) (by omega)).2 k rfl))
          rw [e2, e3]
          exact ⟨0, rfl, rfl⟩
      · have e1 : loop (gameroomref_KnightIs_L1 w h l) 0 = some (.ret 0) := hd1.2 hA1
        have e3 : loop (tour_Is_L1 l (field w h, 0)) (seenL (w * h) l 0, 0) = some (.ret (0, 0)) := hp1.2 (fun q => hA1 (fun k hk => (q k hk).1))
        rw [e1, e3]
        exact ⟨0, rfl, rfl⟩
end
end Go.Proofs.YtlpaklmfgldkoaaDoor
