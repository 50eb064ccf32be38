/-
  A small library of our own: strings that are made of bytes of the call's own; maps keyed by strings.
-/
import Derived.Test.YtdbdcbejmbpbmaaDoorLibAM
namespace Go.GL
open Go Go.RowKit
variable {Ds : List Nat} {ro : Option Nat}

abbrev strV (l : List UInt8) : Value := .string ⟨l.toArray⟩
def b8 (m : List Int) : List UInt8 := m.map (fun n => UInt8.ofNat n.toNat)

section
variable {P : Program} {C : World → Prop} {hyps : List (Bool × Bool)} {w0 w : World} {B : Nat} {A : Option Addr} {n c : Nat} {m : List Int}

theorem push_b8 (f : Value → ByteArray → Sem (ForInStep ByteArray)) (hf : ∀ n s, f (.int .u8 n) s = pure (ForInStep.yield (s.push (UInt8.ofNat n.toNat)))) : ∀ (m : List Int) (s : List UInt8) (w : World), (forIn (m.map (Value.int .u8)).toArray (⟨s.toArray⟩ : ByteArray) f : Sem ByteArray).run P w = .ok ⟨(s ++ b8 m).toArray⟩ w
  | [], s, w => by simp [b8]
  | x :: m, s, w => by
    have ih := push_b8 f hf m (s ++ [UInt8.ofNat x.toNat]) w
    simp only [List.forIn_toArray, List.map_cons, List.forIn_cons, Sem.run_bind, hf] at ih ⊢
    simp only [Sem.run_pure, Result.andThen_ok]
    rw [show (⟨s.toArray⟩ : ByteArray).push (UInt8.ofNat x.toNat) = ⟨(s ++ [UInt8.ofNat x.toNat]).toArray⟩ by simp [ByteArray.push]]
    rw [ih]
    simp [b8]

theorem run_str (hr : Rd w B A (m.map (Value.int .u8))) (hn : n = m.length) : (Conv.bytesToString (.slice A n c)).run P w = .ok (strV (b8 m)) w := by
  subst hn
  cases A with
  | none =>
    have : m = [] := by
      cases m with
      | nil => rfl
      | cons x m =>
        obtain ⟨a, h, _⟩ := hr 0 (.int .u8 x) (by simp)
        cases h
    subst this
    simp [Conv.bytesToString, b8]
    rfl
  | some a =>
    have hl := run_loadCells_list (P := P) w a (m.map (Value.int .u8)) (fun j v hv => by
      obtain ⟨a', h, _, hc⟩ := hr j v hv
      obtain rfl := Option.some.inj h
      exact hc)
    rw [List.length_map] at hl
    simp only [Conv.bytesToString, Sem.run_bind, hl, Result.andThen_ok]
    rw [show (ByteArray.empty) = (⟨([] : List UInt8).toArray⟩ : ByteArray) from rfl, push_b8 _ (fun _ _ => rfl)]
    simp

end
end Go.GL
