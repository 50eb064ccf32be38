/-
  A small library of our own: strings letter by letter; maps by a whole number.
-/
import Derived.Test.YtdbdcbejmbpbmaaDoorLibAR
import Derived.Test.YtdbdcbejmbpbmaaDoorLibSu
import Derived.Laws.RangeAny
import Derived.Laws.IdiomStrings
namespace Go.GL
open Go Go.RowKit

/-- The letter at a place, and how many bytes it takes. -/
def srune (s : List UInt8) (p : Int) : Int := ((Utf8.decode ⟨s.toArray⟩ p.toNat).1 : Int)
def swid (s : List UInt8) (p : Int) : Int := ((Utf8.decode ⟨s.toArray⟩ p.toNat).2 : Int)
def runesF (s : List UInt8) : Nat → Int → List Int
  | 0, _ => []
  | b + 1, p => if p < (s.length : Int) then srune s p :: runesF s b (p + swid s p) else []
/-- The letters of a text. -/
def runesL (s : List UInt8) : List Int := runesF s s.length 0

section
variable {P : Program} {w0 w : World} {B : Nat} {l r : List HP} {g : Nat} {s : List UInt8} {p : Int}

theorem heap_setS {h : Array Obj} {o x : Obj} (hg : h[g]? = some x) : (h.setIfInBounds g o)[g]? = some o := by
  have := (Array.getElem?_eq_some_iff.1 hg).1
  simp [this]
theorem heap_setO {h : Array Obj} {o : Obj} {k : Nat} (hk : k ≠ g) : (h.setIfInBounds g o)[k]? = h[k]? := by
  rw [Array.getElem?_setIfInBounds_ne (fun e => hk e.symm)]
/-- An iterator over a text. -/
def iterH (g : Nat) (s : List UInt8) (p : Int) : HP where
  at_ w f := (w.heap[g]? = some (.stringIter ⟨s.toArray⟩ p.toNat) ∧ 0 ≤ p) ∧ f = [g]
  loc := by
    rintro w w' f hk ⟨⟨h, h0⟩, rfl⟩
    exact ⟨⟨(hk g (by simp)).trans h, h0⟩, rfl⟩

theorem Sep.iterNew {ps : List HP} (hS : Sep w0 B w ps) (s : List UInt8) : Sep w0 B (w.alloc (.stringIter ⟨s.toArray⟩ 0)) (iterH w.heap.size s 0 :: ps) := by
  refine hS.add (by simpa using Ex.of_grown (World.grownBy_alloc w _ none)) (f := [w.heap.size]) ⟨⟨heap_alloc_new w _, by omega⟩, rfl⟩ ?_
  intro k hk
  simp at hk
  subst hk
  simp

theorem run_rangeS {t : TypeId} (ht : P.underlying t = some .string) : (vS (Instr.range t (strV s))).run P w = .ok (.value (.pointer (some ⟨w.heap.size, 0, none⟩))) (w.alloc (.stringIter ⟨s.toArray⟩ 0)) :=
  vS_run (by have := run_range_string (P := P) w t ⟨s.toArray⟩ ht; exact this)

theorem run_nextT {ty : TypeId} (h : decide (p < (s.length : Int)) = true) (hS : Sep w0 B w (l ++ iterH g s p :: r)) :
    ∃ w', (vS (Instr.next (.pointer (some ⟨g, 0, none⟩)) true ty)).run P w = .ok (.value (.tuple #[.bool true, .int .i64 p, .int .i32 (srune s p)])) w' ∧ Sep w0 B w' (l ++ iterH g s (p + swid s p) :: r) := by
  obtain ⟨f, ⟨⟨hg, h0⟩, _⟩, _⟩ := hS.get
  have hp : p.toNat < (⟨s.toArray⟩ : ByteArray).size := by
    have := of_decide_eq_true h
    show p.toNat < s.toArray.size
    simp
    omega
  refine ⟨{ w with heap := w.heap.setIfInBounds g (.stringIter ⟨s.toArray⟩ (p.toNat + (Utf8.decode ⟨s.toArray⟩ p.toNat).2)) }, vS_run ?_, ?_⟩
  · simp only [Instr.next, getObj, setObj, Sem.run_bind, Sem.run, hg, Result.andThen, hp, if_true]
    simp only [goInt, srune]
    simp [Int.toNat_of_nonneg h0]
  · refine hS.upd fun f hf hbd => ⟨[g], ⟨⟨?_, ?_⟩, rfl⟩, ?_, ?_, ?_⟩
    · show (w.heap.setIfInBounds g _)[g]? = _
      rw [heap_setS hg]
      congr 2
      unfold swid
      omega
    · unfold swid; omega
    · rw [hf.2]
      exact ⟨rfl, rfl, rfl, by simp, fun k _ hk => heap_setO (fun e => hk (by simp [e]))⟩
    · intro k hk; rw [hf.2]; exact .inl hk
    · intro k hk
      have := hbd k (by rw [hf.2]; exact hk)
      simpa using this.2

theorem run_nextF {ty : TypeId} (h : decide (p < (s.length : Int)) = false) (hS : Sep w0 B w (l ++ iterH g s p :: r)) :
    (vS (Instr.next (.pointer (some ⟨g, 0, none⟩)) true ty)).run P w = .ok (.value (.tuple #[.bool false])) w := by
  obtain ⟨f, ⟨⟨hg, h0⟩, _⟩, _⟩ := hS.get
  have hp : ¬ p.toNat < (⟨s.toArray⟩ : ByteArray).size := by
    have := of_decide_eq_false h
    show ¬ p.toNat < s.toArray.size
    simp
    omega
  exact vS_run (by simp [Instr.next, getObj, Sem.run, hg, hp])
end

section
variable {P : Program} {kt : TypeId} {k : IntKind}
theorem now_int {V : Type} (vf : V → Value) (x : Int) : ∀ (es : List MapEntry) (m : List (Int × V)) (i : Nat), ER (Value.int k) vf es m → Instr.findNow (.int k) (.int k x) es i = some (mfind vf x m i)
  | [], [], _, _ => by simp [Instr.findNow, mfind]
  | [], _ :: _, _, h => h.elim
  | _ :: _, [], _, h => h.elim
  | e :: es, p :: m, i, h => by
    have ih := now_int vf x es m (i + 1) h.2
    unfold Instr.findNow mfind
    rw [h.1.1, h.1.2]
    simp only [Instr.sameNow]
    by_cases e1 : x = p.1
    · simp [e1]
    · have : (x == p.1) = false := by simpa using e1
      simp [e1, this, ih]

theorem MKey.int (h : P.underlying kt = some (.int k)) : MKey P kt (Value.int k) := ⟨fun em a w => by
    unfold Instr.checkKey
    simp [run_underlying h], fun a w => by
    simp [Instr.keyThatStays, Instr.sameBits], by
  intro V vf x w es m hE
  unfold Instr.findKey
  simp only [Sem.run_bind, run_underlying h, Result.andThen_ok]
  rw [now_int vf x es m 0 hE]
  simp⟩
end

theorem runesFrom_eq (s : List UInt8) : ∀ (b : Nat) (i : Nat) (acc : Array Value), (Conv.runesFrom ⟨s.toArray⟩ b i acc).toList = acc.toList ++ (runesF s b i).map (Value.int .i32)
  | 0, i, acc => by simp [Conv.runesFrom, runesF]
  | b + 1, i, acc => by
    unfold Conv.runesFrom runesF
    have hs : (⟨s.toArray⟩ : ByteArray).size = s.length := by show s.toArray.size = _; simp
    by_cases h : i < s.length
    · rw [if_pos (by rw [hs]; exact h), if_pos (by omega)]
      have ih := runesFrom_eq s b (i + (Utf8.decode ⟨s.toArray⟩ i).2) (acc.push (.int .i32 (Int.ofNat (Utf8.decode ⟨s.toArray⟩ i).1)))
      rw [ih]
      have e : ((i + (Utf8.decode ⟨s.toArray⟩ i).2 : Nat) : Int) = (i : Int) + swid s i := by unfold swid; simp
      rw [e]
      simp [srune]
    · rw [if_neg (by rw [hs]; exact h), if_neg (by omega)]
      simp
theorem runesF_le (s : List UInt8) : ∀ (b : Nat) (p : Int), (runesF s b p).length ≤ b
  | 0, _ => by simp [runesF]
  | b + 1, p => by
    unfold runesF
    split
    · have := runesF_le s b (p + swid s p); simp; omega
    · simp
theorem runesL_le (s : List UInt8) : (runesL s).length ≤ s.length := runesF_le s _ _
theorem runesL_eq (s : List UInt8) : (Conv.runesFrom ⟨s.toArray⟩ (⟨s.toArray⟩ : ByteArray).size 0 #[]).toList = (runesL s).map (Value.int .i32) := by
  have hs : (⟨s.toArray⟩ : ByteArray).size = s.length := by show s.toArray.size = _; simp
  rw [hs, runesFrom_eq]
  simp [runesL]

section
variable {P : Program} {w0 w : World} {B : Nat} {ps : List HP}
theorem run_runesS {src dst e : TypeId} (hs : P.underlying src = some .string) (hd : P.underlying dst = some (.slice e)) (he : P.underlying e = some (.int .i32)) (s : List UInt8) (hl : (s.length : Int) ≤ bigN) (hS : Sep w0 B w ps) :
    ∃ A c w', (vS (convert src dst (strV s))).run P w = .ok (.value (.slice A (runesL s).length c)) w' ∧ Sep w0 B w' (own e (.slice A (runesL s).length c) ((runesL s).map (Value.int .i32)) :: ps) := by
  have hle := runesL_le s
  have hsz : (Conv.runesFrom ⟨s.toArray⟩ (⟨s.toArray⟩ : ByteArray).size 0 #[]).size = (runesL s).length := by
    have := congrArg List.length (runesL_eq s)
    simpa using this
  have hbig : (s.length : Int) ≤ 17592186044416 := hl
  have hrun := run_runes_of_string (P := P) w src dst e ⟨s.toArray⟩ hs hd he (by rw [hsz]; omega)
  have hge := grownCap_ge w (runesL s).length 0 e
  have hcm := grownCap_le_maxLen w (runesL s).length 0 e (by unfold maxLen; omega)
  rw [hsz] at hrun
  refine ⟨_, _, _, vS_run hrun, ?_⟩
  refine hS.add ⟨rfl, rfl, rfl, by simp, fun k hk _ => heap_alloc_old w.drew _ hk⟩ (f := [w.heap.size]) ⟨⟨by simp, .inr ⟨w.heap.size, _, _, by rw [List.length_map], Nat.zero_le _, heap_alloc_new w.drew _, by rw [List.length_map]; exact hge, hcm, ?_, ?_⟩⟩, by simp [Value.ownBlock]⟩ ?_
  · rw [Array.size_append, hsz, Array.size_replicate]; omega
  · rw [Array.toList_append, runesL_eq, List.length_map, Nat.mul_one, List.take_left' (by simp)]
  · intro k hk
    simp at hk
    subst hk
    simp
end
end Go.GL
