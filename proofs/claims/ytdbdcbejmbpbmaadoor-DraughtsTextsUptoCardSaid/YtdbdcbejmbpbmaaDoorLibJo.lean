/-
  A small library of our own: strings.Join, Contains, Index by the shelf's contracts, over a frame.
-/
import Derived.Test.YtdbdcbejmbpbmaaDoorLibIt
import Derived.Shelf.Strings.OnBuilder
import Derived.Shelf.Strings.Search3
namespace Go.GL
open Go Go.RowKit Go.Shelf
variable {P : Program} {ρ : Ren} {w0 w : World} {B : Nat} {fs : List HP}
theorem sz_of (x : List UInt8) : (⟨x.toArray⟩ : ByteArray).size = x.length := by show x.toArray.size = _; simp
def indexM (s sub : List UInt8) : Int := Lib.index s sub
def containsM (s sub : List UInt8) : Bool := Lib.contains s sub
def joinM (l : List (List UInt8)) (sep : List UInt8) : List UInt8 := Lib.join l sep
theorem index_own {s sub : List UInt8} {g1 : Nat} [G : IntG g1 w0 B] (L : Go.Proofs.Lays.n143 P ρ) (hg : ρ.g 1 = g1) (hS : Sep w0 B w fs) (hb : (s.length : Int) ≤ 4194304) :
    Calls P (ρ.f 143) #[strV s, strV sub] w fun e w' => e = .returned (.int .i64 (indexM s sub)) ∧ Sep w0 B w' fs := by
  obtain ⟨m, hm⟩ := G.cell w hS.below
  have := sz_of s
  refine (Go.Proofs.Any.strings_Index L ⟨s.toArray⟩ ⟨sub.toArray⟩ m w (by omega) (by rw [hg]; exact hm)).mono ?_
  rintro e w' ⟨rfl, rfl⟩
  exact ⟨by simp [indexM], hS⟩
theorem contains_own {s sub : List UInt8} {g1 : Nat} [G : IntG g1 w0 B] (L : Go.Proofs.Lays.n144 P ρ) (hg : ρ.g 1 = g1) (hS : Sep w0 B w fs) (hb : (s.length : Int) ≤ 4194304) :
    Calls P (ρ.f 144) #[strV s, strV sub] w fun e w' => e = .returned (.bool (containsM s sub)) ∧ Sep w0 B w' fs := by
  obtain ⟨m, hm⟩ := G.cell w hS.below
  have := sz_of s
  refine (Go.Proofs.Any.strings_Contains L ⟨s.toArray⟩ ⟨sub.toArray⟩ m w (by omega) (by rw [hg]; exact hm)).mono ?_
  rintro e w' ⟨rfl, rfl⟩
  exact ⟨by simp [containsM], hS⟩
theorem join_own {A : Option Addr} {n c : Nat} {l : List (List UInt8)} {sep : List UInt8} (L : Go.Proofs.Lays.n156 P ρ) (X : Go.Proofs.Builder.Extra P ρ) (hS : Sep w0 B w fs) (hr : RdF w0 B fs A (List.map strV l)) (hc : l.length ≤ c) (hn : n = l.length)
    (hb : (l.length : Int) ≤ 4194304 ∧ ((joinM l sep).length : Int) ≤ 4194304) :
    Calls P (ρ.f 156) #[.slice A n c, strV sep] w fun e w' => e = .returned (strV (joinM l sep)) ∧ Sep w0 B w' fs := by
  subst hn
  cases hl : l with
  | nil =>
    refine (Go.Proofs.Any.strings_Join_none L X A c ⟨sep.toArray⟩ w).mono ?_
    rintro e w' ⟨rfl, rfl⟩
    exact ⟨rfl, hS⟩
  | cons x r =>
    have hrd := hr w hS
    obtain ⟨a, rfl, hab, hac⟩ := hrd 0 (strV x) (by rw [hl]; rfl)
    obtain ⟨bk, o, sp⟩ := a
    have hac0 : w.cell? ⟨bk, o, sp⟩ = some (strV x) := by simpa [Addr.add] using hac
    obtain rfl : sp = none := by
      cases sp with
      | none => rfl
      | some y =>
        unfold World.cell? at hac0
        split at hac0 <;> simp at hac0
    have hlen : (l.map (fun y => (⟨y.toArray⟩ : ByteArray))).length = l.length := List.length_map ..
    have hdata : (l.map (fun y => (⟨y.toArray⟩ : ByteArray))).map (·.data.toList) = l := by
      rw [List.map_map]
      conv => rhs; rw [← List.map_id l]
      apply List.map_congr_left
      intro y _
      simp
    have h := Go.Proofs.Any.strings_Join L X bk o c (l.map (fun y => (⟨y.toArray⟩ : ByteArray))) ⟨sep.toArray⟩ w
      (fun j y hy => by
        rw [List.getElem?_map, Option.map_eq_some_iff] at hy
        obtain ⟨z, hz, rfl⟩ := hy
        obtain ⟨a', e', _, hc'⟩ := hrd j (strV z) (by rw [List.getElem?_map, hz]; rfl)
        cases e'
        have e1 : (⟨bk, o, none⟩ : Addr).add j = ⟨bk, o + j, none⟩ := by unfold Addr.add; split <;> simp_all
        rw [e1] at hc'
        exact hc')
      hab (by rw [hlen]; omega) (by rw [hlen]; exact hc) (by rw [hdata]; have := hb.2; unfold joinM at this; simp only [List.toList_toArray]; omega)
    rw [hlen, hdata] at h
    rw [← hl]
    refine h.mono ?_
    rintro e w' ⟨rfl, hw⟩
    exact ⟨by simp [strV, joinM], hS.ofBelow hw⟩
end Go.GL
