/-
  Words: which bytes are a letter, and what the letters of a text are.
-/
import Derived.Test.YtdbdcbejmbpbmaaDoorLibUv
import Derived.Lib.TrimUEq
import Derived.Lib.ValidLaws
import Derived.Lib.QuoteLoop
namespace Go.Proofs.YtdbdcbejmbpbmaaDoor
open Go Go.GL

def forB (c : Int) : Bool := ((decide (c < 97)) || (decide ((122 : Int) < c))) && (((decide (c < 223)) || (decide ((255 : Int) < c))) || (c == 247))

section
variable {s : List UInt8} {p : Int}
def bAt (s : List UInt8) (i : Nat) : Nat := (s.getD i 0).toNat
theorem bAt_lt (i : Nat) : bAt s i < 256 := (s.getD i 0).toNat_lt
theorem getU_b (h0 : 0 ≤ p) (k : Nat) : getU s (p + k) = (bAt s (p.toNat + k) : Int) := by
  unfold getU bAt
  rw [show (p + k).toNat = p.toNat + k by omega]
theorem getU_b0 : getU s p = (bAt s p.toNat : Int) := rfl
theorem dec_at (s : List UInt8) (i : Nat) : Utf8.decode ⟨s.toArray⟩ i = Lib.decodeN (s.length - i) (bAt s i) (bAt s (i + 1)) (bAt s (i + 2)) (bAt s (i + 3)) := by
  have h := Lib.decode_N ⟨s.toArray⟩ i
  simpa [bAt] using h
theorem srune_N : srune s p = ((Lib.decodeN (s.length - p.toNat) (bAt s p.toNat) (bAt s (p.toNat + 1)) (bAt s (p.toNat + 2)) (bAt s (p.toNat + 3))).1 : Int) := by
  unfold srune; rw [dec_at]
theorem swid_N : swid s p = ((Lib.decodeN (s.length - p.toNat) (bAt s p.toNat) (bAt s (p.toNat + 1)) (bAt s (p.toNat + 2)) (bAt s (p.toNat + 3))).2 : Int) := by
  unfold swid; rw [dec_at]
theorem wid_pos : 1 ≤ swid s p := by
  rw [swid_N]
  have := Lib.decodeN_ge1 (s.length - p.toNat) (bAt s p.toNat) (bAt s (p.toNat + 1)) (bAt s (p.toNat + 2)) (bAt s (p.toNat + 3))
  omega
theorem wid_le (h0 : 0 ≤ p) (hp : p < s.length) : p + swid s p ≤ s.length := by
  rw [swid_N]
  have := Lib.decodeN_width_le (s.length - p.toNat) (bAt s p.toNat) (bAt s (p.toNat + 1)) (bAt s (p.toNat + 2)) (bAt s (p.toNat + 3)) (by omega)
  omega

theorem forB_f {c : Int} (h : forB c = false) : (97 ≤ c ∧ c ≤ 122) ∨ (223 ≤ c ∧ c ≤ 255 ∧ c ≠ 247) := by
  unfold forB at h
  simp only [Bool.and_eq_false_iff, Bool.or_eq_false_iff, decide_eq_false_iff_not, beq_eq_false_iff_ne] at h
  omega
theorem forB_t {c : Int} (h : forB c = true) : ¬ ((97 ≤ c ∧ c ≤ 122) ∨ (223 ≤ c ∧ c ≤ 255 ∧ c ≠ 247)) := by
  unfold forB at h
  simp only [Bool.and_eq_true, Bool.or_eq_true, decide_eq_true_eq, beq_iff_eq] at h
  omega

/-- The bytes of a letter. -/
def Let1 (s : List UInt8) (p : Int) : Prop := 97 ≤ getU s p ∧ getU s p ≤ 122
def Let2 (s : List UInt8) (p : Int) : Prop := p + 1 < s.length ∧ getU s p = 195 ∧ 159 ≤ getU s (p + 1) ∧ getU s (p + 1) ≤ 191 ∧ getU s (p + 1) ≠ 183

theorem step_1 (hl : Let1 s p) : srune s p = getU s p ∧ swid s p = 1 := by
  unfold Let1 at hl
  rw [srune_N, swid_N]
  rw [getU_b0] at hl ⊢
  unfold Lib.decodeN
  rw [if_pos (by omega)]
  exact ⟨rfl, rfl⟩
theorem step_2 (h0 : 0 ≤ p) (hl : Let2 s p) : srune s p = getU s (p + 1) + 64 ∧ swid s p = 2 := by
  obtain ⟨h1, h2, h3, h4, h5⟩ := hl
  rw [srune_N, swid_N]
  have e := getU_b (s := s) h0 1
  rw [show (p + (1 : Nat) : Int) = p + 1 from rfl] at e
  rw [e] at h3 h4 h5 ⊢
  rw [getU_b0] at h2
  have hb := bAt_lt (s := s) (p.toNat + 1)
  unfold Lib.decodeN
  rw [if_neg (by omega), if_pos (by omega), if_pos (by omega)]
  exact ⟨by simp only; omega, rfl⟩
theorem step_ok (h0 : 0 ≤ p) (hp : p < s.length) (hf : forB (srune s p) = false) : Let1 s p ∨ Let2 s p := by
  have hr := forB_f hf
  rw [srune_N] at hr
  have b0 := bAt_lt (s := s) p.toNat
  have b1 := bAt_lt (s := s) (p.toNat + 1)
  have e := getU_b (s := s) h0 1
  rw [show (p + (1 : Nat) : Int) = p + 1 from rfl] at e
  unfold Let1 Let2
  rw [e, getU_b0]
  unfold Lib.decodeN at hr
  by_cases c1 : bAt s p.toNat < 128
  · rw [if_pos c1] at hr
    left
    simp only at hr
    omega
  · rw [if_neg c1] at hr
    by_cases c2 : bAt s p.toNat / 32 = 6 ∧ (1 < s.length - p.toNat ∧ bAt s (p.toNat + 1) / 64 = 2)
    · rw [if_pos c2] at hr
      by_cases c3 : bAt s p.toNat % 32 * 64 + bAt s (p.toNat + 1) % 64 ≥ 128
      · rw [if_pos c3] at hr
        right
        simp only at hr
        omega
      · rw [if_neg c3] at hr
        simp only at hr
        omega
    · rw [if_neg c2] at hr
      exfalso
      repeat' split at hr
      all_goals simp only at hr
      all_goals omega
theorem step_bad (h0 : 0 ≤ p) (hf : forB (srune s p) = true) : ¬ Let1 s p ∧ ¬ Let2 s p := by
  have hr := forB_t hf
  constructor
  · intro h
    have := (step_1 h).1
    unfold Let1 at h
    omega
  · intro h
    have := (step_2 h0 h).1
    obtain ⟨h1, h2, h3, h4, h5⟩ := h
    omega
end

/-- A letter's bytes. -/
def encR (r : Int) : List UInt8 := if r < 128 then [UInt8.ofNat r.toNat] else [195, UInt8.ofNat (r - 64).toNat]
theorem encR_inj {a b : Int} (ha : forB a = false) (hb : forB b = false) : encR a = encR b ↔ a = b := by
  have h1 := forB_f ha
  have h2 := forB_f hb
  constructor
  · unfold encR
    intro h
    split at h <;> split at h
    · have := congrArg UInt8.toNat (List.cons.inj h).1
      simp at this
      omega
    · simp at h
    · simp at h
    · have := congrArg UInt8.toNat (List.cons.inj (List.cons.inj h).2).1
      simp at this
      omega
  · rintro rfl; rfl

theorem valid_ok {s : List UInt8} : ∀ (b : Nat) (p : Int), 0 ≤ p → (s.length : Int) ≤ p + b → (runesF s b p).any forB = false → Lib.validD (s.drop p.toNat) = true := by
  intro b
  induction b with
  | zero =>
    intro p h0 hl _
    rw [List.drop_eq_nil_of_le (by omega)]
    rfl
  | succ b ih =>
    intro p h0 hl hf
    by_cases hp : p < s.length
    · unfold runesF at hf
      rw [if_pos hp, List.any_cons, Bool.or_eq_false_iff] at hf
      have hd : Lib.decodeL (s.drop p.toNat) = Utf8.decode ⟨s.toArray⟩ p.toNat := by
        have := Lib.decodeL_drop ⟨s.toArray⟩ p.toNat
        simpa using this
      have hne : s.drop p.toNat ≠ [] := by
        intro h
        have := congrArg List.length h
        rw [List.length_drop] at this
        simp at this
        omega
      have hr := forB_f hf.1
      have e1 : ((Utf8.decode ⟨s.toArray⟩ p.toNat).1 : Int) = srune s p := rfl
      have e2 : ((Utf8.decode ⟨s.toArray⟩ p.toNat).2 : Int) = swid s p := rfl
      have hw := wid_pos (s := s) (p := p)
      rw [Lib.validD_step _ hne, hd, if_neg (by omega), List.drop_drop]
      have := ih (p + swid s p) (by omega) (by omega) hf.2
      rw [show (p + swid s p).toNat = p.toNat + (Utf8.decode ⟨s.toArray⟩ p.toNat).2 by omega] at this
      exact this
    · rw [List.drop_eq_nil_of_le (by omega)]
      rfl
theorem validS_ok {s : List UInt8} (h : (runesL s).any forB = false) : validS s = true := by
  have := valid_ok (s := s) s.length 0 (by omega) (by omega) h
  simpa [validS] using this
end Go.Proofs.YtdbdcbejmbpbmaaDoor
