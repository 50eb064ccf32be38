/-
  DraughtsTexts: numbers in digits.
-/
import Derived.Test.YtdbdcbejmbpbmaaDoorNDT
import Derived.Test.YtdbdcbejmbpbmaaDoorLibSp
import Derived.Test.YtdbdcbejmbpbmaaDoorLibX
import Derived.Test.YtdbdcbejmbpbmaaDoorLibY
import Derived.Lib.AtoiTie
namespace Go.Proofs.YtdbdcbejmbpbmaaDoor
open Go Go.GL

def isD (b : UInt8) : Bool := decide (48 ≤ b.toNat) && decide (b.toNat ≤ 57)
def foldD (n : Nat) : List UInt8 → Nat
  | [] => n
  | b :: l => foldD (n * 10 + (b.toNat - 48)) l
def capD (n : Nat) : List UInt8 → Nat
  | [] => n
  | b :: l => capD (if n < 1000 then 10 * n + (b.toNat - 48) else n) l
theorem isD_iff {b : UInt8} : isD b = true ↔ 48 ≤ b.toNat ∧ b.toNat ≤ 57 := by unfold isD; simp
theorem foldD_ge : ∀ (l : List UInt8) (n : Nat), n ≤ foldD n l
  | [], n => Nat.le_refl _
  | b :: l, n => by
    have := foldD_ge l (n * 10 + (b.toNat - 48))
    show n ≤ foldD _ l
    omega
theorem capD_big : ∀ (l : List UInt8) (n : Nat), 1000 ≤ n → capD n l = n
  | [], _, _ => rfl
  | b :: l, n, h => by
    show capD (if n < 1000 then _ else n) l = n
    rw [if_neg (by omega)]
    exact capD_big l n h
theorem cap_fold : ∀ (l : List UInt8) (n : Nat), capD n l = foldD n l ∨ (1000 ≤ capD n l ∧ 1000 ≤ foldD n l)
  | [], _ => .inl rfl
  | b :: l, n => by
    show capD (if n < 1000 then 10 * n + (b.toNat - 48) else n) l = foldD (n * 10 + (b.toNat - 48)) l ∨ _
    by_cases h : n < 1000
    · rw [if_pos h, Nat.mul_comm 10 n]
      rcases cap_fold l (n * 10 + (b.toNat - 48)) with e | e
      · exact .inl e
      · right
        show 1000 ≤ capD (if n < 1000 then 10 * n + (b.toNat - 48) else n) l ∧ 1000 ≤ foldD (n * 10 + (b.toNat - 48)) l
        rw [if_pos h, Nat.mul_comm 10 n]
        exact e
    · right
      have h1 := capD_big (b :: l) n (by omega)
      have h2 := foldD_ge l (n * 10 + (b.toNat - 48))
      have : foldD n (b :: l) = foldD (n * 10 + (b.toNat - 48)) l := rfl
      omega
theorem uint_fold : ∀ (l : List UInt8) (n : Nat), l.all isD = true → Lib.parseUint10 n l = .ok (foldD n l) ∨ (Lib.parseUint10 n l = .range ∧ 1000000000000000000 ≤ foldD n l)
  | [], n, _ => .inl rfl
  | b :: l, n, h => by
    rw [List.all_cons, Bool.and_eq_true] at h
    have hb := isD_iff.1 h.1
    unfold Lib.parseUint10
    rw [if_pos hb]
    have hg := foldD_ge l (n * 10 + (b.toNat - 48))
    have he : foldD n (b :: l) = foldD (n * 10 + (b.toNat - 48)) l := rfl
    split
    · exact .inr ⟨rfl, by omega⟩
    · split
      · exact .inr ⟨rfl, by omega⟩
      · rw [he]
        exact uint_fold l _ h.2
theorem dec_fold : ∀ (l : List UInt8) (n : Nat), l.all isD = true → Lib.decFrom n l = some (foldD n l)
  | [], _, _ => rfl
  | b :: l, n, h => by
    rw [List.all_cons, Bool.and_eq_true] at h
    have hb := isD_iff.1 h.1
    unfold Lib.decFrom Lib.digitVal
    rw [if_pos hb]
    exact dec_fold l _ h.2
/-- A number without a sign. -/
theorem atoi_digits {p : List UInt8} (hp : p ≠ []) (h : p.all isD = true) : (atoiE p = false ∧ atoiN p = (foldD 0 p : Int)) ∨ (atoiE p = true ∧ ¬ p.length < 19 ∧ 1000000000000000000 ≤ foldD 0 p) := by
  cases p with
  | nil => exact absurd rfl hp
  | cons c r =>
    have hc : c.toNat ≠ 43 ∧ c.toNat ≠ 45 := by
      rw [List.all_cons, Bool.and_eq_true] at h
      have := isD_iff.1 h.1
      omega
    have hu := uint_fold (c :: r) 0 h
    have hs : (c :: r).length ≤ 18 → ∃ v, Lib.atoiAll (c :: r) = .ok v := fun hl => by
      rw [Lib.atoiAll_short _ hl]
      have h45 : (c == 45) = false := by
        refine beq_eq_false_iff_ne.2 fun e => hc.2 (by rw [e]; rfl)
      have h43 : (c == 43) = false := by
        refine beq_eq_false_iff_ne.2 fun e => hc.1 (by rw [e]; rfl)
      unfold Lib.atoi Lib.decNat
      simp only [h45, h43, Bool.false_eq_true, if_false, List.isEmpty_cons]
      rw [dec_fold _ _ h]
      exact ⟨_, rfl⟩
    have ha : Lib.atoiAll (c :: r) = (match Lib.parseMag (c :: r) with | .syntax => .syntax | .range => .range | .ok u => if 9223372036854775808 ≤ u then .range else .ok (u : Int)) := by
      unfold Lib.atoiAll
      simp only [hc.1, hc.2, or_self, if_false, not_false_eq_true, true_and, false_and]
      cases Lib.parseMag (c :: r) <;> rfl
    have hm : Lib.parseMag (c :: r) = Lib.parseUint10 0 (c :: r) := by unfold Lib.parseMag; rw [if_neg (by simp)]
    rw [hm] at ha
    unfold atoiE atoiN
    rcases hu with hu | ⟨hu, hbig⟩
    · rw [hu] at ha
      simp only at ha
      by_cases q : 9223372036854775808 ≤ foldD 0 (c :: r)
      · rw [if_pos q] at ha
        right
        rw [ha]
        refine ⟨rfl, fun hl => ?_, by omega⟩
        obtain ⟨v, hv⟩ := hs (by omega)
        rw [ha] at hv
        cases hv
      · rw [if_neg q] at ha
        left
        rw [ha]
        exact ⟨rfl, rfl⟩
    · rw [hu] at ha
      right
      rw [ha]
      refine ⟨rfl, fun hl => ?_, hbig⟩
      obtain ⟨v, hv⟩ := hs (by omega)
      rw [ha] at hv
      cases hv

theorem dropWhile_nil {α : Type} {p : α → Bool} : ∀ {l : List α}, l.dropWhile p = [] ↔ ∀ x ∈ l, p x = true
  | [] => by simp
  | x :: l => by
    have ih := dropWhile_nil (p := p) (l := l)
    cases h : p x with
    | true => rw [List.dropWhile_cons_of_pos h, ih]; simp [h]
    | false => rw [List.dropWhile_cons_of_neg (by simp [h])]; simp [h]
theorem set_isD (b : UInt8) : ([48, 49, 50, 51, 52, 53, 54, 55, 56, 57] : List UInt8).contains b = isD b := by
  have key : ∀ n < 256, ([48, 49, 50, 51, 52, 53, 54, 55, 56, 57] : List UInt8).contains (UInt8.ofNat n) = isD (UInt8.ofNat n) := by decide +kernel
  have := key b.toNat b.toNat_lt
  rwa [UInt8.ofNat_toNat] at this
theorem trim_digits (s : List UInt8) : trimM s [48, 49, 50, 51, 52, 53, 54, 55, 56, 57] = [] ↔ s.all isD = true := by
  unfold trimM Lib.trimS Lib.trimLeftS Lib.trimRightS
  constructor
  · intro e
    have hall : ∀ x ∈ (s.reverse.dropWhile (([48, 49, 50, 51, 52, 53, 54, 55, 56, 57] : List UInt8).contains ·)), isD x = true := by
      intro x hx
      have := dropWhile_nil.1 e x (List.mem_reverse.2 hx)
      rwa [set_isD] at this
    cases hd : s.reverse.dropWhile (([48, 49, 50, 51, 52, 53, 54, 55, 56, 57] : List UInt8).contains ·) with
    | nil =>
      have := dropWhile_nil.1 hd
      exact List.all_eq_true.2 fun x hx => by rw [← set_isD]; exact this x (List.mem_reverse.2 hx)
    | cons x r =>
      have h1 := hall x (by rw [hd]; exact List.mem_cons_self ..)
      have h2 := List.head?_dropWhile_not (([48, 49, 50, 51, 52, 53, 54, 55, 56, 57] : List UInt8).contains ·) s.reverse
      rw [hd] at h2
      simp only [List.head?_cons] at h2
      rw [set_isD, h1] at h2
      cases h2
  · intro a
    have : s.reverse.dropWhile (([48, 49, 50, 51, 52, 53, 54, 55, 56, 57] : List UInt8).contains ·) = [] := dropWhile_nil.2 fun x hx => by rw [set_isD]; exact List.all_eq_true.1 a x (List.mem_reverse.1 hx)
    rw [this]
    rfl

/-- A piece that is a number. -/
def okP (p : List UInt8) : Bool := (!(p == [])) && p.all isD && !(p.getD 0 0 == 48)
/-- The number that the program takes it for. -/
noncomputable def valP (p : List UInt8) : Int := if atoiE p = true then 99 else atoiN p
def numP (p : List UInt8) : Int := (capD 0 p : Int)
theorem val_num {p : List UInt8} (h : okP p = true) : valP p = numP p ∨ (32 < valP p ∧ 32 < numP p) := by
  unfold okP at h
  rw [Bool.and_eq_true, Bool.and_eq_true, Bool.not_eq_true', beq_eq_false_iff_ne] at h
  have hc := cap_fold p 0
  unfold valP numP
  rcases atoi_digits h.1.1 h.1.2 with ⟨e, v⟩ | ⟨e, _, v⟩
  · rw [e, if_neg (by decide), v]
    rcases hc with hc | hc
    · rw [hc]; exact .inl rfl
    · right; omega
  · rw [e, if_pos rfl]
    rcases hc with hc | hc
    · right; omega
    · right; omega
end Go.Proofs.YtdbdcbejmbpbmaaDoor
