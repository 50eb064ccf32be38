/-
  ClockRuns: what controls and lists may be, and the pace.
-/
import Derived.Test.YtbmhcapeikebgaaNCR
import Derived.Test.YtbmhcapeikebgaaLibX
import Derived.Test.YtbmhcapeikebgaaLibY
import Derived.Test.YtbmhcapeikebgaaLibT
import Derived.Test.YtbmhcapeikebgaaLibK
namespace Go.Proofs.Ytbmhcapeikebgaa
open Go Go.GL

def In36 (x : Int) : Prop := 0 ≤ x ∧ x ≤ 36000000
instance (x : Int) : Decidable (In36 x) := inferInstanceAs (Decidable (_ ∧ _))

/-- What is wrong with a control. -/
def errC (c1 c2 c3 c4 c5 : Int) : Int := if In36 c1 ∧ In36 c3 ∧ In36 c5 ∧ (0 ≤ c4 ∧ c4 ≤ 1000) then (if 0 ≤ c2 ∧ c2 ≤ 3 then 0 else 4) else 3

theorem far_f {x : Int} (h : In36 x) : (decide (x < 0) || decide ((36000000 : Int) < x)) = false := by unfold In36 at h; simp; omega
theorem far_t {x : Int} (h : ¬ In36 x) : (decide (x < 0) || decide ((36000000 : Int) < x)) = true := by unfold In36 at h; simp; omega
theorem wi_t {x lo hi : Int} (h : lo ≤ x ∧ x ≤ hi) : (decide (lo ≤ x) && decide (x ≤ hi)) = true := by simp; omega
theorem wi_f {x lo hi : Int} (h : ¬ (lo ≤ x ∧ x ≤ hi)) : (decide (lo ≤ x) && decide (x ≤ hi)) = false := by simp; omega

theorem check_p (c1 c2 c3 c4 c5 : Int) : clock_check_m c1 c2 c3 c4 c5 = some (errC c1 c2 c3 c4 c5) := by
  unfold clock_check_m clock_far_m errC clock_check_J1
  by_cases h1 : In36 c1
  · rw [far_f h1, Option.bind_some, if_pos (show (!false) = true from rfl)]
    by_cases h3 : In36 c3
    · rw [far_f h3, Option.bind_some, if_pos (show (!(false || false)) = true from rfl)]
      by_cases h5 : In36 c5
      · rw [far_f h5, Option.bind_some]
        by_cases h4 : 0 ≤ c4 ∧ c4 ≤ 1000
        · rw [if_neg (by simp; omega), if_pos (show In36 c1 ∧ In36 c3 ∧ In36 c5 ∧ (0 ≤ c4 ∧ c4 ≤ 1000) from ⟨h1, h3, h5, h4⟩)]
          by_cases h2 : 0 ≤ c2 ∧ c2 ≤ 3
          · rw [if_neg (by simp; omega), if_pos h2]
          · rw [if_pos (by simp; omega), if_neg h2]
        · rw [if_pos (by simp; omega), if_neg (show ¬ (In36 c1 ∧ In36 c3 ∧ In36 c5 ∧ (0 ≤ c4 ∧ c4 ≤ 1000)) from fun h => h4 h.2.2.2)]
      · rw [far_t h5, Option.bind_some, if_pos (by simp), if_neg (fun h => h5 h.2.2.1)]
    · rw [far_t h3, Option.bind_some, if_neg (by simp), Option.bind_some, if_pos (by simp), if_neg (fun h => h3 h.2.1)]
  · rw [far_t h1, Option.bind_some, if_neg (by simp), Option.bind_some, if_neg (by simp), Option.bind_some, if_pos (by simp), if_neg (fun h => h1 h.1)]

theorem control_r (c1 c2 c3 c4 c5 : Int) : gameroomref_ControlMay_m c1 c2 c3 c4 c5 = some (errC c1 c2 c3 c4 c5) := by
  unfold gameroomref_ControlMay_m gameroomref_within_m errC gameroomref_ControlMay_J1 gameroomref_within_m gameroomref_ControlMay_J2
  by_cases h1 : In36 c1
  · rw [wi_t h1, Option.bind_some, if_pos (show (!(!true)) = true from rfl)]
    by_cases h3 : In36 c3
    · rw [wi_t h3, Option.bind_some, if_pos (show (!((!true) || (!true))) = true from rfl)]
      by_cases h5 : In36 c5
      · rw [wi_t h5, Option.bind_some, if_pos (show (!(((!true) || (!true)) || (!true))) = true from rfl)]
        by_cases h4 : 0 ≤ c4 ∧ c4 ≤ 1000
        · rw [wi_t h4, Option.bind_some, if_neg (by simp), if_pos ⟨h1, h3, h5, h4⟩]
          by_cases h2 : 0 ≤ c2 ∧ c2 ≤ 3
          · rw [wi_t h2, Option.bind_some, if_neg (by simp), if_pos h2]
          · rw [wi_f h2, Option.bind_some, if_pos (by simp), if_neg h2]
        · rw [wi_f h4, Option.bind_some, if_pos (by simp), if_neg (fun h => h4 h.2.2.2)]
      · rw [wi_f h5, Option.bind_some, if_neg (by simp), Option.bind_some, if_pos (by simp), if_neg (fun h => h5 h.2.2.1)]
    · rw [wi_f h3, Option.bind_some, if_neg (by simp), Option.bind_some, if_neg (by simp), Option.bind_some, if_pos (by simp), if_neg (fun h => h3 h.2.1)]
  · rw [wi_f h1, Option.bind_some, if_neg (by simp), Option.bind_some, if_neg (by simp), Option.bind_some, if_neg (by simp), Option.bind_some, if_pos (by simp), if_neg (fun h => h1 h.1)]

def strB (x : Int) : Bool := decide (x < 0) || decide ((36000000 : Int) < x)

theorem containsF_p {l : List Int} (hs : l.length ≤ 17592186043904) : slices_ContainsFunc_m l = some (l.any strB) := by
  unfold slices_ContainsFunc_m slices_IndexFunc_m
  rw [search_loop (l := l) strB (fun i => Fl.ret (i : Int)) (Fl.go ()) ?_ ?_ ?_]
  · have hn := fidx_neg strB l
    unfold fidx at hn
    cases hf : l.findIdx? strB with
    | none =>
      rw [hf] at hn
      have : l.any strB = false := by
        rw [Bool.eq_false_iff]
        intro h; have := hn.2 h; simp at this
      rw [this]; rfl
    | some i =>
      rw [hf] at hn
      have : l.any strB = true := hn.1 (by simp)
      rw [this]
      simp [slices_IndexFunc_K1]
  · intro i x hx hp
    have hb := idx_bd hx
    simp only [slices_IndexFunc_L1, slices_IndexFunc_J2]
    rw [if_pos (by simpa using hb.2), asrt_pos hb, geti_some hx]
    simp only [clock_far_m, Option.bind_some]
    exact if_pos hp
  · intro i x hx hp
    have hb := idx_bd hx
    simp only [slices_IndexFunc_L1, slices_IndexFunc_J2]
    rw [if_pos (by simpa using hb.2), asrt_pos hb, geti_some hx]
    simp only [clock_far_m, Option.bind_some]
    rw [if_neg (by unfold strB at hp; rw [hp]; simp)]
    simp only [slices_IndexFunc_J3]
    rw [w64_succ (by omega)]
  · simp only [slices_IndexFunc_L1]
    rw [if_neg (by simp)]

theorem strB_in (x : Int) : strB x = !(decide (0 ≤ x) && decide (x ≤ 36000000)) := by
  unfold strB
  rw [Bool.eq_iff_iff]
  simp only [Bool.or_eq_true, decide_eq_true_eq, Bool.not_eq_true', Bool.and_eq_false_iff, decide_eq_false_iff_not]
  omega

/-- What is wrong with a list of times. -/
def errU (l : List Int) : Int := if 200 < l.length then 11 else if l.any strB = true then 1 else 0

theorem used_r {c1 c2 c3 c4 c5 : Int} {l : List Int} (hs : l.length ≤ 17592186043904) : gameroomref_UsedMay_m c1 c2 c3 c4 c5 l = some (if errC c1 c2 c3 c4 c5 ≠ 0 then errC c1 c2 c3 c4 c5 else errU l) := by
  unfold gameroomref_UsedMay_m
  rw [control_r, Option.bind_some]
  by_cases h : errC c1 c2 c3 c4 c5 = 0
  · rw [if_neg (by simp [h]), if_neg (by simp [h])]
    unfold gameroomref_UsedMay_J1 errU
    by_cases h2 : 200 < l.length
    · rw [if_pos (by simp; omega), if_pos h2]
    · rw [if_neg (by simp; omega), if_neg h2]
      unfold gameroomref_UsedMay_J2
      rw [search_loop (l := l) strB (fun _ => Fl.ret 1) (Fl.go ()) ?_ ?_ ?_]
      · have hn := fidx_neg strB l
        unfold fidx at hn
        cases hf : l.findIdx? strB with
        | some i =>
          rw [hf] at hn
          rw [if_pos (hn.1 (by simp))]; rfl
        | none =>
          rw [hf] at hn
          rw [if_neg (fun h => by have := hn.2 h; simp at this)]; rfl
      · intro i x hx hp
        have hb := idx_bd hx
        rw [strB_in] at hp
        simp only [gameroomref_UsedMay_L1, gameroomref_UsedMay_J4, gameroomref_within_m]
        rw [if_pos (by simpa using hb.2), asrt_pos hb, geti_some hx, Option.bind_some, if_pos hp]
      · intro i x hx hp
        have hb := idx_bd hx
        rw [strB_in] at hp
        simp only [gameroomref_UsedMay_L1, gameroomref_UsedMay_J4, gameroomref_UsedMay_J5, gameroomref_within_m]
        rw [if_pos (by simpa using hb.2), asrt_pos hb, geti_some hx, Option.bind_some, if_neg (by rw [hp]; simp), w64_succ (by omega)]
      · simp only [gameroomref_UsedMay_L1]
        rw [if_neg (by simp)]
  · rw [if_pos (by simpa using h), if_pos h]

theorem new_p {c1 c2 c3 c4 c5 : Int} {l : List Int} (hs : l.length ≤ 17592186043904) : clock_newDevice_m c1 c2 c3 c4 c5 l = some (if errC c1 c2 c3 c4 c5 ≠ 0 then .go (errC c1 c2 c3 c4 c5) else if errU l ≠ 0 then .go (errU l) else .ret (c1, c2, c3, c4, c5, [c1, c1], List.replicate 2 (0 : Int))) := by
  unfold clock_newDevice_m
  rw [check_p, Option.bind_some]
  by_cases h : errC c1 c2 c3 c4 c5 = 0
  · rw [if_neg (by simp [h]), if_neg (by simp [h])]
    unfold clock_newDevice_J1 errU
    by_cases h2 : 200 < l.length
    · rw [if_pos (by simp; omega), if_pos h2, if_pos (by decide)]
    · rw [if_neg (by simp; omega), if_neg h2, containsF_p hs, Option.bind_some]
      by_cases h3 : l.any strB = true
      · rw [if_pos h3, if_pos h3, if_pos (by decide)]
      · rw [if_neg h3, if_neg h3, if_neg (by decide)]; rfl
  · rw [if_pos (by simpa using h), if_pos h]

/-! ### The pace -/
def pc (c1 c2 c3 c4 c5 : Int) (k : Nat) : Int := c1 + (if 0 < c2 then (k : Int) * c3 else 0) + (if 0 < c4 then ((k / c4.toNat : Nat) : Int) * c5 else 0)
/-- How much a move adds of the control's more. -/
def mor (c4 c5 : Int) (k : Nat) : Int := if 0 < c4 ∧ k % c4.toNat = 0 then c5 else 0

theorem mul_bd {k : Nat} {c : Int} (hk : k ≤ 200) (hc : In36 c) : 0 ≤ (k : Int) * c ∧ (k : Int) * c ≤ 200 * 36000000 := by
  unfold In36 at hc
  exact ⟨Int.mul_nonneg (by omega) hc.1, Int.mul_le_mul (by omega) hc.2 hc.1 (by omega)⟩
theorem pc_bd {c1 c2 c3 c4 c5 : Int} {k : Nat} (h1 : In36 c1) (h3 : In36 c3) (h5 : In36 c5) (hk : k ≤ 200) : 0 ≤ pc c1 c2 c3 c4 c5 k ∧ pc c1 c2 c3 c4 c5 k ≤ 100000000000 := by
  have b1 := mul_bd hk h3
  have b2 := mul_bd (k := k / c4.toNat) (Nat.le_trans (Nat.div_le_self _ _) hk) h5
  unfold In36 at h1
  unfold pc
  split <;> split <;> omega
theorem pc_succ (c1 c2 c3 c4 c5 : Int) (k : Nat) : pc c1 c2 c3 c4 c5 (k + 1) = pc c1 c2 c3 c4 c5 k + (if 0 < c2 then c3 else 0) + mor c4 c5 (k + 1) := by
  unfold pc mor
  have e1 : ((k + 1 : Nat) : Int) * c3 = (k : Int) * c3 + c3 := by rw [Int.natCast_add, Int.add_mul]; simp
  have e2 : ((k + 1) / c4.toNat) = k / c4.toNat + if c4.toNat ∣ k + 1 then 1 else 0 := Nat.succ_div
  have e3 : (c4.toNat ∣ k + 1) ↔ (k + 1) % c4.toNat = 0 := Nat.dvd_iff_mod_eq_zero
  have a1 : (if 0 < c2 then ((k + 1 : Nat) : Int) * c3 else 0) = (if 0 < c2 then (k : Int) * c3 else 0) + (if 0 < c2 then c3 else 0) := by
    by_cases h : 0 < c2
    · rw [if_pos h, if_pos h, if_pos h, e1]
    · rw [if_neg h, if_neg h, if_neg h]; rfl
  have a2 : (if 0 < c4 then (((k + 1) / c4.toNat : Nat) : Int) * c5 else 0) = (if 0 < c4 then ((k / c4.toNat : Nat) : Int) * c5 else 0) + (if 0 < c4 ∧ (k + 1) % c4.toNat = 0 then c5 else 0) := by
    by_cases h : 0 < c4
    · rw [if_pos h, if_pos h, e2]
      by_cases h2 : (k + 1) % c4.toNat = 0
      · rw [if_pos (e3.2 h2), if_pos (show 0 < c4 ∧ (k + 1) % c4.toNat = 0 from ⟨h, h2⟩), Int.natCast_add, Int.add_mul]
        simp
      · rw [if_neg (fun q => h2 (e3.1 q)), if_neg (show ¬ (0 < c4 ∧ (k + 1) % c4.toNat = 0) from fun q => h2 q.2), Nat.add_zero, Int.add_zero]
    · rw [if_neg h, if_neg h, if_neg (show ¬ (0 < c4 ∧ (k + 1) % c4.toNat = 0) from fun q => h q.1)]; rfl
  rw [a1, a2]
  omega

theorem pace_p {c1 c2 c3 c4 c5 : Int} {k : Nat} (hC : errC c1 c2 c3 c4 c5 = 0) (h1 : In36 c1) (h3 : In36 c3) (h5 : In36 c5) (h2 : 0 ≤ c2) (hk : k ≤ 200) : clock_Pace_m c1 c2 c3 c4 c5 k = some (pc c1 c2 c3 c4 c5 k, 0) := by
  unfold clock_Pace_m
  rw [check_p, hC, Option.bind_some, if_neg (by simp)]
  unfold clock_Pace_J1
  rw [if_neg (by simp; omega)]
  have b1 := mul_bd hk h3
  have b2 := mul_bd (k := k / c4.toNat) (Nat.le_trans (Nat.div_le_self _ _) hk) h5
  have h1' := h1
  unfold In36 at h1
  have key : ∀ n1 : Int, 0 ≤ n1 → n1 ≤ 100000000000 → clock_Pace_J3 c4 c5 k n1 = some (n1 + (if 0 < c4 then ((k / c4.toNat : Nat) : Int) * c5 else 0), 0) := by
    intro n1 hn1 hn2
    unfold clock_Pace_J3 clock_Pace_J4
    by_cases h : 0 < c4
    · obtain ⟨m, rfl⟩ : ∃ m : Nat, c4 = (m : Int) := ⟨c4.toNat, by omega⟩
      rw [Int.toNat_natCast] at b2 ⊢
      have hd := Nat.div_le_self k m
      rw [if_pos (decide_eq_true h), if_pos h, asrt_pos (by omega), tdiv_nat, w64_nat (k := k / m) (by omega), w64_of (x := ((k / m : Nat) : Int) * c5) (by omega), w64_of (by omega)]
    · rw [if_neg (by simpa using h), if_neg h, Int.add_zero]
  unfold clock_Pace_J2 pc
  by_cases h : 0 < c2
  · rw [if_pos (by simp; omega), if_pos h, w64_of (x := (k : Int) * c3) (by omega), w64_of (by omega), key _ (by omega) (by omega)]
  · rw [if_neg (by simp; omega), if_neg h, key _ (by omega) (by omega), Int.add_zero]

theorem pace_r {c1 c2 c3 c4 c5 : Int} {k : Nat} (h1 : In36 c1) (h3 : In36 c3) (h5 : In36 c5) (h4 : 0 ≤ c4 ∧ c4 ≤ 1000) (hk : k ≤ 200) : gameroomref_PaceOf_m c1 c2 c3 c4 c5 k = some (pc c1 c2 c3 c4 c5 k) := by
  have h := loop_from (step := gameroomref_PaceOf_L1 c2 c3 c4 c5 k) (s0 := (c1, 1)) (r := pc c1 c2 c3 c4 c5 k) (fun n => (pc c1 c2 c3 c4 c5 n, (n : Int) + 1)) k (by
      show (pc c1 c2 c3 c4 c5 0, _) = _
      have : pc c1 c2 c3 c4 c5 0 = c1 := by unfold pc; simp
      rw [this]; rfl) (by
    intro n hn
    have e1 : gameroomref_PaceOf_L1 c2 c3 c4 c5 k (pc c1 c2 c3 c4 c5 n, (n : Int) + 1) = gameroomref_PaceOf_J2 c2 c3 c4 c5 (pc c1 c2 c3 c4 c5 n) ((n : Int) + 1) := if_pos (decide_eq_true (by omega))
    have b := pc_bd (c2 := c2) (c4 := c4) (k := n) h1 h3 h5 (by omega)
    rw [e1, pc_succ]
    generalize pc c1 c2 c3 c4 c5 n = S at *
    obtain ⟨m, rfl⟩ : ∃ m : Nat, c4 = (m : Int) := ⟨c4.toNat, by omega⟩
    unfold In36 at h1 h3 h5
    have key : ∀ x : Int, 0 ≤ x → x ≤ 200000000000 → gameroomref_PaceOf_J4 m c5 ((n : Int) + 1) x = some (.next (x + mor m c5 (n + 1), ((n + 1 : Nat) : Int) + 1)) := by
      intro x hx hx2
      unfold gameroomref_PaceOf_J4 gameroomref_PaceOf_J3 mor
      rw [Int.toNat_natCast, show (n : Int) + 1 = ((n + 1 : Nat) : Int) from rfl, tmod_nat, asrt_pos (by intro q; rw [decide_eq_true_eq] at q; omega), w64_of (x := ((n + 1 : Nat) : Int) + 1) (by omega)]
      by_cases q : 0 < (m : Int) ∧ (n + 1) % m = 0
      · rw [if_pos (by rw [q.2]; simp; omega), if_pos q, w64_of (by omega)]
      · rw [if_neg (by simp only [Bool.and_eq_true, decide_eq_true_eq, beq_iff_eq]; intro z; exact q ⟨z.1, by omega⟩), if_neg q, Int.add_zero]
    unfold gameroomref_PaceOf_J2
    by_cases q : 0 < c2
    · rw [if_pos (decide_eq_true q), if_pos q, w64_of (by omega), key _ (by omega) (by omega)]
    · rw [if_neg (by simpa using q), if_neg q, key _ (by omega) (by omega), Int.add_zero]) (by
    simp only [gameroomref_PaceOf_L1]
    rw [if_neg (by simp; omega)])
  unfold gameroomref_PaceOf_m
  rw [h]; rfl
end Go.Proofs.Ytbmhcapeikebgaa
