/-
  A small library of our own: strings that are made of bytes of the call's own; maps keyed by strings.
-/
import Derived.Test.YtjfloofoobllaaaLibAM
namespace Go.GL
open Go Go.RowKit
variable {Ds : List Nat} {ro : Option Nat}

abbrev strV (l : List UInt8) : Value := .string ⟨l.toArray⟩
def b8 (m : List Int) : List UInt8 := m.map (fun n => UInt8.ofNat n.toNat)

section
variable {P : Program} {C : World → Prop} {hyps : List (Bool × Bool)} {w0 w : World} {B : Nat} {A : Option Addr} {n c : Nat} {m : List Int}

theorem push_b8 (f : Value → ByteArray → Sem (ForInStep ByteArray)) (hf : ∀ n s, f (.int .u8 n) s = pure (ForInStep.yield (s.push (UInt8.ofNat n.toNat)))) : ∀ (m : List Int) (s : List UInt8) (w : World), (forIn (m.map (Value.int .u8)).toArray (⟨s.toArray⟩ : ByteArray) f : Sem ByteArray).run P w = .ok ⟨(s ++ b8 m).toArray⟩ w
  | [], s, w => by simp [b8]
  | x :: m, s, w => by
    have ih := push_b8 f hf m (s ++ [UInt8.ofNat x.toNat]) w
    simp only [List.forIn_toArray, List.map_cons, List.forIn_cons, Sem.run_bind, hf] at ih ⊢
    simp only [Sem.run_pure, Result.andThen_ok]
    rw [show (⟨s.toArray⟩ : ByteArray).push (UInt8.ofNat x.toNat) = ⟨(s ++ [UInt8.ofNat x.toNat]).toArray⟩ by simp [ByteArray.push]]
    rw [ih]
    simp [b8]

theorem run_str (hr : Rd w B A (m.map (Value.int .u8))) (hn : n = m.length) : (Conv.bytesToString (.slice A n c)).run P w = .ok (strV (b8 m)) w := by
  subst hn
  cases A with
  | none =>
    have : m = [] := by
      cases m with
      | nil => rfl
      | cons x m =>
        obtain ⟨a, h, _⟩ := hr 0 (.int .u8 x) (by simp)
        cases h
    subst this
    simp [Conv.bytesToString, b8]
    rfl
  | some a =>
    have hl := run_loadCells_list (P := P) w a (m.map (Value.int .u8)) (fun j v hv => by
      obtain ⟨a', h, _, hc⟩ := hr j v hv
      obtain rfl := Option.some.inj h
      exact hc)
    rw [List.length_map] at hl
    simp only [Conv.bytesToString, Sem.run_bind, hl, Result.andThen_ok]
    rw [show (ByteArray.empty) = (⟨([] : List UInt8).toArray⟩ : ByteArray) from rfl, push_b8 _ (fun _ _ => rfl)]
    simp

theorem strV_beq (a b : List UInt8) : ((⟨a.toArray⟩ : ByteArray) == ⟨b.toArray⟩) = decide (a = b) := by
  show (a.toArray == b.toArray) = _
  rw [Bool.eq_iff_iff]; simp

theorem now_str {V : Type} (vf : V → Value) (k : List UInt8) : ∀ (es : List MapEntry) (m : List (List UInt8 × V)) (i : Nat), ER strV vf es m → Instr.findNow .string (strV k) es i = some (mfind vf k m i)
  | [], [], _, _ => by simp [Instr.findNow, mfind]
  | [], _ :: _, _, h => h.elim
  | _ :: _, [], _, h => h.elim
  | e :: es, p :: m, i, h => by
    have ih := now_str vf k es m (i + 1) h.2
    unfold Instr.findNow mfind
    rw [h.1.1, h.1.2]
    simp only [Instr.sameNow, strV_beq]
    by_cases e1 : k = p.1
    · simp [e1]
    · simp [e1, ih]

theorem MKey.str {kt : TypeId} (h : P.underlying kt = some .string) : MKey P kt strV := ⟨fun em a w => by
    unfold Instr.checkKey
    simp [run_underlying h], fun a w => by
    have h1 := strV_beq a a
    simp only [decide_true] at h1
    simp [Instr.keyThatStays, Instr.sameBits, h1], by
  intro V vf k w es m hE
  unfold Instr.findKey
  simp only [Sem.run_bind, run_underlying h, Result.andThen_ok]
  rw [now_str vf k es m 0 hE]
  simp⟩
end
end Go.GL
