/-
  A small library of our own: rows of several owners behind one outer slice (a bag keeps what is the call's own); a full slice appended to.
-/
import Derived.Test.YtdbdcbejmbpbmaaDoorLibHd
import Derived.Test.YtdbdcbejmbpbmaaDoorLibU
namespace Go.GL
open Go Go.RowKit

/-- Nothing. -/
def noB : HP where
  at_ _ f := f = []
  loc := fun _ h => h
/-- Two side by side. -/
def twoB (a b : HP) : HP where
  at_ w f := SepL w [a, b] f
  loc := fun hk h => h.loc hk

/-- What a bag keeps makes the rows readable. -/
def BagOk (w0 : World) (B : Nat) (fs : List HP) (bg : HP) (hd : List Hd) (m : List (List Int)) : Prop := ∀ w, Sep w0 B w (bg :: fs) → RowsAll w w.heap.size hd m

section
variable {w0 w : World} {B : Nat} {ps fs l r : List HP} {a b bg : HP} {hd : List Hd} {m : List (List Int)} {e ei : TypeId}

theorem Sep.noB (h : Sep w0 B w ps) : Sep w0 B w (noB :: ps) := h.add (Ex.refl w) (f := []) rfl (by simp)
theorem BagOk.nil : BagOk w0 B fs noB [] [] := fun _ _ => trivial

theorem Sep.two (h : Sep w0 B w (a :: b :: ps)) : Sep w0 B w (twoB a b :: ps) := by
  obtain ⟨u, hs, hu⟩ := h.ex
  refine ⟨h.base, h.below, ?_⟩
  cases hs with
  | @cons _ _ f1 u1 ha h1 d1 =>
    cases h1 with
    | @cons _ _ f2 u2 hb h2 d2 =>
      have h3 : SepL w [a, b] (f1 ++ (f2 ++ [])) := .cons ha (.cons hb .nil (by simp)) (fun k hk hk' => d1 k hk (by simp at hk' ⊢; exact .inl hk'))
      refine ⟨_, SepL.cons (p := twoB a b) h3 h2 (fun k hk => ?_), fun k hk => hu k ?_⟩
      · simp only [List.append_nil, List.mem_append] at hk
        rcases hk with h | h
        · intro h'
          exact d1 k h (by simp [h'])
        · exact d2 k h
      · simp only [List.append_nil, List.mem_append] at hk ⊢
        rcases hk with (h | h) | h
        · exact .inl h
        · exact .inr (.inl h)
        · exact .inr (.inr h)
theorem Sep.untwo (h : Sep w0 B w (twoB a b :: ps)) : Sep w0 B w (a :: b :: ps) := by
  obtain ⟨u, hs, hu⟩ := h.ex
  refine ⟨h.base, h.below, ?_⟩
  cases hs with
  | @cons _ _ f1 u1 hab h1 d1 =>
    have hab' : SepL w [a, b] f1 := hab
    cases hab' with
    | @cons _ _ g1 v1 ha h2 d2 =>
      cases h2 with
      | @cons _ _ g2 v2 hb h3 d3 =>
        cases h3
        refine ⟨_, SepL.cons ha (SepL.cons hb h1 (fun k hk => d1 k (by simp [hk]))) (fun k hk hk' => ?_), fun k hk => hu k ?_⟩
        · rcases List.mem_append.1 hk' with h | h
          · exact d2 k hk (by simp [h])
          · exact d1 k (by simp [hk]) h
        · simp only [List.append_nil, List.mem_append] at hk ⊢
          rcases hk with h | h | h
          · exact .inl (.inl h)
          · exact .inl (.inr h)
          · exact .inr h

theorem BagOk.row {A : Option Addr} {c : Nat} {x : List Int} (h : BagOk w0 B fs bg hd m) (hr : ∀ w, Sep w0 B w (bg :: fs) → Rd w w.heap.size A (vI x) ∧ x.length ≤ c) : BagOk w0 B fs bg (hd ++ [(A, c)]) (m ++ [x]) :=
  fun w hS => (h w hS).app ⟨hr w hS, trivial⟩
theorem BagOk.own {A : Option Addr} {c : Nat} {x : List Int} (h : BagOk w0 B fs bg hd m) : BagOk w0 B fs (twoB (Go.GL.own ei (.slice A x.length c) (vI x)) bg) (hd ++ [(A, c)]) (m ++ [x]) :=
  fun w hS => by
    have h2 := hS.untwo
    have h3 : Sep w0 B w (bg :: fs) := by simpa using h2.dropN 1
    exact (h w h3).app ⟨⟨(h2.at_ 0 rfl).rd, (h2.at_ 0 rfl).cap1⟩, trivial⟩
end

section
variable {P : Program} {w0 w : World} {B : Nat} {ps : List HP} {t e : TypeId} {inf : TypeInfo} {α : Type}

end
end Go.GL
namespace Go.GL
open Go Go.RowKit
section
variable {P : Program} {C : World → Prop} {hyps : List (Bool × Bool)} {t e : TypeId} {inf : TypeInfo} {A : Option Addr} {n c : Nat} {w0 w : World} {B : Nat} {ps fs : List HP} {bg : HP} {hd : List Hd} {m : List (List Int)}

theorem add0 (a : Addr) : a.add 0 = a := by
  cases a
  simp [Addr.add]

theorem BagOk.at_ (h : BagOk w0 B fs bg hd m) (hS : Sep w0 B w ps) (n i : Nat) (hin : i < n) (hi : ps[i]? = some bg) (hd' : ps.drop n = fs) : RowsAll w w.heap.size hd m :=
  h w (by
    have := hS.pickN n [i] (by simp)
    rw [hd'] at this
    have e : (ps.take n)[i]? = some bg := by rw [List.getElem?_take, if_pos hin, hi]
    simpa [e] using this)
end
end Go.GL
namespace Go.GL
open Go Go.RowKit
section
variable {A : Option Addr} {n c : Nat} {α : Type} {m : List α}
theorem cut_all (h : n = m.length) : 0 ≤ (0 : Int) ∧ (0 : Int) ≤ (n : Int) ∧ (n : Int) ≤ (m.length : Int) := by omega
theorem cut_whole (h : n = m.length) : Value.slice A n c = .slice (cutAddr A c (0 : Int)) (cut m (0 : Int) (n : Int)).length (c - Int.toNat (0 : Int)) := by
  have e1 : cutAddr A c 0 = A := by
    unfold cutAddr
    split
    · rfl
    · have e0 : (fun a : Addr => a.add (Int.toNat 0)) = id := funext add0
      rw [e0]; simp
  have e2 : (cut m (0 : Int) (n : Int)).length = n := by
    unfold cut
    simp [h]
  rw [e1, e2]
  rfl
end
end Go.GL
namespace Go.GL
open Go Go.RowKit
end Go.GL
