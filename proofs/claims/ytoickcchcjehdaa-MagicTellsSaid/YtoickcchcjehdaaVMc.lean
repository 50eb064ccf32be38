/-
  MagicTells: the document's kind of a square; which numbers are far; Is.
-/
import Derived.Test.YtoickcchcjehdaaVMb
namespace Go.Proofs.Ytoickcchcjehdaa
open Go Go.GL

section
variable {l : List Int} {n : Nat} (h1 : 1 ≤ n) (h2 : n ≤ 12) (h3 : n * n = l.length)
include h1 h2
theorem ixn (y x : Nat) (hy : y < n) (hx : x < n) : w64 (w64 ((y : Int) * (n : Int)) + (x : Int)) = ((y * n + x : Nat) : Int) ∧ y * n + x < n * n := by
  have h3 := ix_lt h1 h2 hy hx
  have h4 := nn_le h1 h2
  rw [show (y : Int) * (n : Int) = ((y * n : Nat) : Int) by push_cast; rfl, w64_nat (by omega), ← Int.natCast_add, w64_nat (by omega)]
  exact ⟨rfl, h3⟩
omit h1 h2 in
theorem lR_eq {k : Nat} (hk : k < n) : lR l n k = sW l (fun i => k * n + i) n := by
  unfold lR
  exact sW_congr fun i hi => by rw [Nat.mod_eq_of_lt hk, Nat.mod_eq_of_lt hi]
omit h1 h2 in
theorem lC_eq {k : Nat} (hk : k < n) : lC l n k = sW l (fun i => i * n + k) n := by
  unfold lC
  exact sW_congr fun i hi => by rw [Nat.mod_eq_of_lt hk, Nat.mod_eq_of_lt hi]
omit h1 h2 in
theorem lD_eq (k : Nat) : lD l n k = sW l (fun i => i * n + (i + k) % n) n := by
  unfold lD
  exact sW_congr fun i hi => by rw [Nat.mod_eq_of_lt hi]
omit h1 h2 in
theorem lU_eq (k : Nat) : lU l n k = sW l (fun i => i * n + (n - 1 - i + k) % n) n := by
  rw [← sW_rev l (fun i => i * n + (n - 1 - i + k) % n) n]
  unfold lU
  exact sW_congr fun i hi => by
    have e : n - 1 - (n - 1 - i) = i := by omega
    rw [e, Nat.mod_eq_of_lt (show n - 1 - i < n by omega)]
include h3
theorem want_d : loop (gameroomref_MagicKind_L1 l (n : Int)) (0, 0) = some (lR l n 0) := by
  rw [lR_eq h1, sum_loop (l := l) (g := fun i => 0 * n + i) (n := n) (fun i s hi => ?_) (fun s => ?_)]
  · have := sq_le (Nat.one_mul n ▸ h1 : 1 ≤ n)
    have hn : n ≤ n * n := Nat.le_mul_of_pos_left n h1
    unfold gameroomref_MagicKind_L1 gameroomref_MagicKind_J2 gameroomref_MagicKind_J3
    dsimp only
    rw [if_pos (by rw [decide_eq_true_eq]; omega), asrt_pos (by omega), w64_of (x := (i : Int) + 1) (by omega), Nat.zero_mul, Nat.zero_add]
  · unfold gameroomref_MagicKind_L1
    dsimp only
    rw [if_neg (by simp)]
theorem rc_d (k : Nat) (hk : k < n) : loop (gameroomref_MagicKind_L3 l (n : Int) (k : Int)) (0, 0, 0) = some (lR l n k, lC l n k) := by
  rw [lR_eq hk, lC_eq hk, sum2_loop (l := l) (g := fun i => k * n + i) (h := fun i => i * n + k) (n := n) (fun i s t hi => ?_) (fun s t => ?_)]
  · obtain ⟨e1, b1⟩ := ixn h1 h2 k i hk hi
    obtain ⟨e2, b2⟩ := ixn h1 h2 i k hi hk
    unfold gameroomref_MagicKind_L3 gameroomref_MagicKind_J8 gameroomref_MagicKind_J9
    dsimp only
    rw [if_pos (by rw [decide_eq_true_eq]; omega), e1, e2, asrt_pos (by omega), asrt_pos (by omega), w64_of (x := (i : Int) + 1) (by omega)]
  · unfold gameroomref_MagicKind_L3
    dsimp only
    rw [if_neg (by simp)]
theorem du_d (k : Nat) (hk : k < n) : loop (gameroomref_MagicKind_L5 l (n : Int) (k : Int)) (0, 0, 0) = some (lD l n k, lU l n k) := by
  rw [lD_eq k, lU_eq k, sum2_loop (l := l) (g := fun i => i * n + (i + k) % n) (h := fun i => i * n + (n - 1 - i + k) % n) (n := n) (fun i s t hi => ?_) (fun s t => ?_)]
  · obtain ⟨e1, b1⟩ := ixn h1 h2 i ((i + k) % n) hi (Nat.mod_lt _ h1)
    obtain ⟨e2, b2⟩ := ixn h1 h2 i ((n - 1 - i + k) % n) hi (Nat.mod_lt _ h1)
    unfold gameroomref_MagicKind_L5 gameroomref_MagicKind_J14 gameroomref_MagicKind_J15
    dsimp only
    rw [if_pos (by rw [decide_eq_true_eq]; omega), show w64 ((i : Int) + (k : Int)) = ((i + k : Nat) : Int) by rw [w64_of (by omega)]; push_cast; rfl,
      show w64 (w64 (w64 ((n : Int) - 1) - (i : Int)) + (k : Int)) = ((n - 1 - i + k : Nat) : Int) by rw [w64_of (x := (n : Int) - 1) (by omega), w64_of (x := (n : Int) - 1 - (i : Int)) (by omega), w64_of (by omega)]; omega,
      tmod_nat, tmod_nat, e1, e2, asrt_pos (by omega), asrt_pos (by omega), asrt_pos (by omega), asrt_pos (by omega), w64_of (x := (i : Int) + 1) (by omega)]
  · unfold gameroomref_MagicKind_L5
    dsimp only
    rw [if_neg (by simp)]

/-- The kind while the diagonals are counted from behind. -/
def kf (bad : Nat → Bool) (n i : Nat) : Int := if i = n ∧ bad 0 = true then 1 else if (List.range i).any (fun j => bad (n - 1 - j)) then 2 else 3
omit h2 h3 in
theorem kf_succ {bad : Nat → Bool} {i : Nat} (hi : i < n) : kf bad n (i + 1) = if bad (n - 1 - i) then (if n - 1 - i = 0 then 1 else 2) else kf bad n i := by
  have _ := h1
  unfold kf
  rw [List.range_succ, List.any_append]
  by_cases hb : bad (n - 1 - i) = true
  · rw [if_pos hb]
    by_cases e : n - 1 - i = 0
    · rw [if_pos e, if_pos ⟨by omega, by rwa [e] at hb⟩]
    · rw [if_neg e, if_neg (by omega), if_pos (by simp [hb])]
  · rw [if_neg hb, if_neg (by omega : ¬ (i = n ∧ bad 0 = true))]
    have e1 : ¬ (i + 1 = n ∧ bad 0 = true) := fun h => hb (by rw [show n - 1 - i = 0 by omega]; exact h.2)
    rw [if_neg e1]
    have e2 : [i].any (fun j => bad (n - 1 - j)) = false := by simpa using hb
    rw [e2, Bool.or_false]

def badK (l : List Int) (n : Nat) (k : Nat) : Bool := lD l n k != lR l n 0 || lU l n k != lR l n 0

theorem kind_d (hl : l.length ≤ 17592186043904) : gameroomref_MagicKind_m l = some (kindS l n) := by
  have hside : gameroomref_MagicSide_m l = some (n : Int) := by
    rcases sides hl with ⟨k, k1, k2, k3, k4, k5⟩ | ⟨_, h5⟩
    · have e : k = n := by
        rcases Nat.lt_trichotomy k n with h | h | h
        · have := sq_lt h; omega
        · exact h
        · have := sq_lt h; omega
      rw [k5, e]
    · rcases progSide (l := l) with ⟨k, k1, k2, k3, k4⟩ | ⟨k1, k2⟩
      · obtain ⟨m, a1, a2, a3, a4⟩ := refSide hl
        rw [h5] at a4
        have e : m = n := by
          rcases Nat.lt_trichotomy m n with h | h | h
          · have := sq_lt h; omega
          · exact h
          · have := a3 n h1 h; omega
        rw [e, if_pos ⟨h3, h2⟩] at a4
        injection a4 with a4
        omega
      · exact absurd h3 (k1 n h1 h2)
  unfold gameroomref_MagicKind_m
  rw [hside, Option.bind_some, want_d h1 h2 h3, Option.bind_some]
  unfold gameroomref_MagicKind_K1 gameroomref_MagicKind_J1
  dsimp only
  rw [show loop (gameroomref_MagicKind_L2 l (n : Int) (lR l n 0)) 0 = some (if (List.range n).any (fun k => lR l n k != lR l n 0 || lC l n k != lR l n 0) then (Fl.ret ((0 : Int), (0 : Int)) : Fl Unit (Int × Int)) else Fl.go ()) from
    loop_find (f := fun k => (k : Int)) (fun i hi => by
      unfold gameroomref_MagicKind_L2 gameroomref_MagicKind_J5
      dsimp only
      rw [if_pos (by rw [decide_eq_true_eq]; omega), rc_d h1 h2 h3 i hi, Option.bind_some]
      unfold gameroomref_MagicKind_K3 gameroomref_MagicKind_J7 gameroomref_MagicKind_J6
      dsimp only
      rw [w64_of (x := (i : Int) + 1) (by omega)]
      rfl) (by
      unfold gameroomref_MagicKind_L2
      dsimp only
      rw [if_neg (by simp)]), Option.bind_some]
  have eo : (List.range n).any (fun k => lR l n k != lR l n 0 || lC l n k != lR l n 0) = (offS (lR l n) (lR l n 0) n || offS (lC l n) (lR l n 0) n) := by
    unfold offS
    rw [Bool.eq_iff_iff]
    simp only [Bool.or_eq_true, List.any_eq_true]
    constructor
    · rintro ⟨x, hx, h | h⟩
      · exact .inl ⟨x, hx, h⟩
      · exact .inr ⟨x, hx, h⟩
    · rintro (⟨x, hx, h⟩ | ⟨x, hx, h⟩)
      · exact ⟨x, hx, .inl h⟩
      · exact ⟨x, hx, .inr h⟩
  rw [eo]
  unfold kindS
  dsimp only
  by_cases hb : (offS (lR l n) (lR l n 0) n || offS (lC l n) (lR l n 0) n) = true
  · rw [if_pos hb, if_pos hb]
    rfl
  · rw [if_neg hb, if_neg hb]
    unfold gameroomref_MagicKind_K2 gameroomref_MagicKind_J4
    dsimp only
    rw [w64_of (x := (n : Int) - 1) (by omega), loop_from (s0 := ((3 : Int), (n : Int) - 1)) (r := kf (badK l n) n n) (fun i => (kf (badK l n) n i, (n : Int) - 1 - (i : Int))) n ?_ (fun i hi => ?_) ?_, Option.bind_some]
    · unfold gameroomref_MagicKind_K4 gameroomref_MagicKind_J10
      dsimp only
      have eo2 : (List.range n).any (fun j => badK l n (n - 1 - j)) = (offS (lD l n) (lR l n 0) n || offS (lU l n) (lR l n 0) n) := by
        unfold offS badK
        rw [Bool.eq_iff_iff]
        simp only [Bool.or_eq_true, List.any_eq_true, List.mem_range]
        constructor
        · rintro ⟨x, hx, h | h⟩
          · exact .inl ⟨n - 1 - x, by omega, h⟩
          · exact .inr ⟨n - 1 - x, by omega, h⟩
        · rintro (⟨x, hx, h⟩ | ⟨x, hx, h⟩)
          · exact ⟨n - 1 - x, by omega, .inl (by rwa [show n - 1 - (n - 1 - x) = x by omega])⟩
          · exact ⟨n - 1 - x, by omega, .inr (by rwa [show n - 1 - (n - 1 - x) = x by omega])⟩
      unfold kf
      rw [eo2]
      have e0 : badK l n 0 = (lD l n 0 != lR l n 0 || lU l n 0 != lR l n 0) := rfl
      by_cases h0 : badK l n 0 = true
      · have : (offS (lD l n) (lR l n 0) n || offS (lU l n) (lR l n 0) n) = true := by
          rw [← eo2, List.any_eq_true]
          exact ⟨n - 1, List.mem_range.2 (by omega), by rwa [Nat.sub_self]⟩
        rw [if_pos ⟨rfl, h0⟩, if_pos this, if_pos (by rw [← e0]; exact h0)]
      · rw [if_neg (fun h => h0 h.2), ← e0, if_neg h0]
        split <;> rfl
    · show (kf (badK l n) n 0, (n : Int) - 1 - ((0 : Nat) : Int)) = _
      unfold kf
      rw [if_neg (by omega)]
      simp
    · unfold gameroomref_MagicKind_L4
      dsimp only
      rw [if_neg (by rw [decide_eq_true_eq]; omega)]
    · unfold gameroomref_MagicKind_L4 gameroomref_MagicKind_J11
      dsimp only
      rw [if_pos (by rw [decide_eq_true_eq]; omega), show (n : Int) - 1 - (i : Int) = ((n - 1 - i : Nat) : Int) by omega, du_d h1 h2 h3 (n - 1 - i) (by omega), Option.bind_some, kf_succ h1 hi]
      unfold gameroomref_MagicKind_K5 gameroomref_MagicKind_J13 gameroomref_MagicKind_J12
      dsimp only
      rw [w64_of (by omega), show ((n - 1 - i : Nat) : Int) - 1 = (n : Int) - 1 - ((i + 1 : Nat) : Int) by omega]
      show (if badK l n (n - 1 - i) = true then _ else _) = _
      by_cases hb : badK l n (n - 1 - i) = true
      · rw [if_pos hb, if_pos hb]
        by_cases e : n - 1 - i = 0
        · rw [if_pos (by rw [e]; rfl), if_pos e]
        · rw [if_neg (by simpa using e), if_neg e]
      · rw [if_neg hb, if_neg hb]
end

def farOf (l : List Int) : Bool := l.any fun x => decide (x < -1000000) || decide (1000000 < x)

theorem far_p {l : List Int} (hl : l.length ≤ 17592186043904) : slices_ContainsFunc_m l = some (farOf l) := by
  have step : ∀ i, i < l.length → slices_IndexFunc_L1 l (i : Int) = if (decide (geti l (i : Int) < -1000000) || decide (1000000 < geti l (i : Int))) then some (.done (.ret (i : Int))) else some (.next ((i + 1 : Nat) : Int)) := fun i hi => by
    unfold slices_IndexFunc_L1 slices_IndexFunc_J2 magic_Is_1_m slices_IndexFunc_J3
    dsimp only
    rw [if_pos (by rw [decide_eq_true_eq]; omega), asrt_pos (by omega), Option.bind_some, w64_of (x := (i : Int) + 1) (by omega)]
    rfl
  have key : ∀ m i, i + m = l.length → (loop (slices_IndexFunc_L1 l) (i : Int)).bind slices_IndexFunc_K1 = some (if farOf (l.drop i) then (((loop (slices_IndexFunc_L1 l) (i : Int)).bind slices_IndexFunc_K1).getD 0) else -1) ∧ (farOf (l.drop i) = true → 0 ≤ ((loop (slices_IndexFunc_L1 l) (i : Int)).bind slices_IndexFunc_K1).getD 0) := by
    intro m
    induction m with
    | zero =>
      intro i hi
      obtain rfl : i = l.length := by omega
      rw [loop_done (r := (Fl.go () : Fl Unit Int)) (by
        unfold slices_IndexFunc_L1
        dsimp only
        rw [if_neg (by simp)]), List.drop_length]
      exact ⟨rfl, fun h => by simp [farOf] at h⟩
    | succ m ih =>
      intro i hi
      have hs := step i (by omega)
      have hd : l.drop i = geti l (i : Int) :: l.drop (i + 1) := by
        rw [List.drop_eq_getElem_cons (by omega)]
        congr 1
        rw [geti_nat, List.getD_eq_getElem?_getD, List.getElem?_eq_getElem (by omega)]
        rfl
      have hf : farOf (l.drop i) = ((decide (geti l (i : Int) < -1000000) || decide (1000000 < geti l (i : Int))) || farOf (l.drop (i + 1))) := by
        rw [hd]; rfl
      by_cases hb : (decide (geti l (i : Int) < -1000000) || decide (1000000 < geti l (i : Int))) = true
      · rw [if_pos hb] at hs
        rw [loop_done hs, hf, hb]
        refine ⟨rfl, fun _ => ?_⟩
        show (0 : Int) ≤ (i : Int)
        omega
      · rw [if_neg hb] at hs
        have h := ih (i + 1) (by omega)
        rw [hf, Bool.eq_false_iff.2 hb, Bool.false_or]
        have e : loop (slices_IndexFunc_L1 l) (i : Int) = loop (slices_IndexFunc_L1 l) ((i + 1 : Nat) : Int) := by
          refine loop_next hs rfl ?_
          cases hq : loop (slices_IndexFunc_L1 l) ((i + 1 : Nat) : Int) with
          | some x => rfl
          | none => rw [hq] at h; exact absurd h.1 (by simp)
        rw [e]
        exact h
  have h := key l.length 0 (by omega)
  unfold slices_ContainsFunc_m slices_IndexFunc_m
  rw [List.drop_zero] at h
  rw [show (0 : Int) = ((0 : Nat) : Int) from rfl, h.1, Option.bind_some]
  cases hf : farOf l with
  | true => rw [if_pos rfl]; congr 1; exact decide_eq_true (h.2 hf)
  | false => rfl

theorem far_d {l : List Int} (hl : l.length ≤ 17592186043904) : loop (gameroomlaw_MagicTells_L1 l) (false, 0) = some (farOf l) := by
  rw [loop_from (s0 := (false, (0 : Int))) (r := farOf l) (fun i => (farOf (l.take i), (i : Int))) l.length rfl (fun i hi => ?_) ?_]
  · unfold gameroomlaw_MagicTells_L1
    dsimp only
    rw [if_neg (by simp), List.take_length]
  · unfold gameroomlaw_MagicTells_L1 gameroomlaw_MagicTells_J3 gameroomlaw_MagicTells_J4
    dsimp only
    rw [if_pos (by rw [decide_eq_true_eq]; omega), asrt_pos (fun _ => by omega), asrt_pos (fun _ => by omega), w64_of (x := (i : Int) + 1) (by omega)]
    have ht : l.take (i + 1) = l.take i ++ [geti l (i : Int)] := by
      rw [List.take_add_one, List.getElem?_eq_getElem hi, geti_nat, List.getD_eq_getElem?_getD, List.getElem?_eq_getElem hi]
      rfl
    have : farOf (l.take (i + 1)) = ((farOf (l.take i) || decide (geti l (i : Int) < -1000000)) || decide (1000000 < geti l (i : Int))) := by
      rw [ht]
      unfold farOf
      rw [List.any_append]
      simp [Bool.or_assoc]
    rw [this]
    rfl
end Go.Proofs.Ytoickcchcjehdaa
