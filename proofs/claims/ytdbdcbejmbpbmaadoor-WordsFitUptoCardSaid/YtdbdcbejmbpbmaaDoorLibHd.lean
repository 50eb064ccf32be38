/-
  A small library of our own: rows whose outer slice is the call's own; the rows themselves may only be read, and may be anyone's.
-/
import Derived.Test.YtdbdcbejmbpbmaaDoorLibW
namespace Go.GL
open Go Go.RowKit

/-- The outer slice: headers of rows. -/
def hdrs (e : TypeId) (A : Option Addr) (n c : Nat) (hd : List Hd) (m : List (List Int)) : HP where
  at_ w f := (own e (.slice A n c) (hdV hd m)).at_ w f ∧ hd.length = m.length
  loc := fun hk h => ⟨HP.loc _ hk h.1, h.2⟩

section
variable {P : Program} {w0 w : World} {B : Nat} {l r ps : List HP} {t e : TypeId} {inf : TypeInfo} {A : Option Addr} {n c : Nat} {hd : List Hd} {m : List (List Int)}

theorem Sep.hlen (h : Sep w0 B w (l ++ hdrs e A n c hd m :: r)) : hd.length = m.length := by
  obtain ⟨f, hf, _⟩ := h.get
  exact hf.2
theorem RowsAll.app {B : Nat} : ∀ {h1 : List Hd} {m1 : List (List Int)} {h2 : List Hd} {m2 : List (List Int)}, RowsAll w B h1 m1 → RowsAll w B h2 m2 → RowsAll w B (h1 ++ h2) (m1 ++ m2)
  | [], [], _, _, _, k => k
  | [], _ :: _, _, _, h, _ => h.elim
  | _ :: _, [], _, _, h, _ => h.elim
  | _ :: _, _ :: _, _, _, h, k => ⟨h.1, RowsAll.app h.2 k⟩
theorem RowsAll.of {B : Nat} : ∀ {hd : List Hd} {m : List (List Int)}, hd.length = m.length → (∀ i : Nat, i < m.length → Rd w B (hdA hd i) (vI (geti2 m i)) ∧ (geti2 m i).length ≤ hdC hd i) → RowsAll w B hd m
  | [], [], _, _ => trivial
  | [], _ :: _, h, _ => by simp at h
  | _ :: _, [], h, _ => by simp at h
  | _ :: _, _ :: _, h, k => ⟨by simpa [hdA, hdC, geti2] using k 0 (by simp), RowsAll.of (by simpa using h) (fun i hi => by
      have := k (i + 1) (by simpa using hi)
      have e : ((i + 1 : Nat) : Int).toNat = i + 1 := by omega
      simp only [hdA, hdC, geti2, e, List.getD_cons_succ] at this
      simpa [hdA, hdC, geti2] using this)⟩
theorem RdRows.all {B : Nat} (h : RdRows w B A hd m) : RowsAll w B hd m := RowsAll.of h.len fun i hi => h.row i ⟨by omega, by omega⟩

end
end Go.GL
