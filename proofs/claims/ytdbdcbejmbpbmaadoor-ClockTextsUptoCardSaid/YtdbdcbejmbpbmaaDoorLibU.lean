/-
  A small library of our own: contracts over a frame of objects (fs), slices with a length of their own spelling, arrays in blocks.
-/
import Derived.Test.YtdbdcbejmbpbmaaDoorLibS
import Derived.Test.YtdbdcbejmbpbmaaDoorLibT
namespace Go.GL
open Go Go.RowKit
variable {Ds : List Nat} {ro : Option Nat}

section
variable {w0 w w' : World} {B : Nat} {p : HP} {l r ps qs fs : List HP}

theorem SepL.unapp : ∀ {l : List HP} {u : List Nat}, SepL w (l ++ r) u → ∃ u1 u2, SepL w l u1 ∧ SepL w r u2 ∧ (∀ k ∈ u1, k ∉ u2) ∧ ∀ k, k ∈ u ↔ k ∈ u1 ∨ k ∈ u2
  | [], u, h => ⟨[], u, .nil, h, by simp, by simp⟩
  | p :: l, _, h => by
    cases h with
    | cons hp hs hd =>
      rename_i f u
      obtain ⟨u1, u2, h1, h2, h3, h4⟩ := SepL.unapp (l := l) hs
      refine ⟨f ++ u1, u2, .cons hp h1 (fun k hk hk' => hd k hk ((h4 k).2 (.inl hk'))), h2, fun k hk hk' => ?_, fun k => ?_⟩
      · rcases List.mem_append.1 hk with h0 | h0
        · exact hd k h0 ((h4 k).2 (.inr hk'))
        · exact h3 k h0 hk'
      · simp only [List.mem_append, h4, or_assoc]

/-- Some of the first 'n' objects, in another order; the others stay. -/
theorem Sep.pickN (h : Sep w0 B w ps) (n : Nat) (is : List Nat) (hn : is.Nodup) : Sep w0 B w (is.filterMap ((ps.take n)[·]?) ++ ps.drop n) := by
  obtain ⟨u, hs, hu⟩ := h.ex
  rw [← List.take_append_drop n ps] at hs
  obtain ⟨u1, u2, h1, h2, h3, h4⟩ := hs.unapp
  obtain ⟨F, f1, f2, f3⟩ := h1.fn
  obtain ⟨v, hv, hm⟩ := SepL.of_fn f1 f2 is hn
  have hv1 : ∀ k ∈ v, k ∈ u1 := fun k hk => by obtain ⟨i, _, hi, hki⟩ := hm k hk; exact f3 i k hi hki
  obtain ⟨z, hz, hzm⟩ := SepL.append hv h2 (fun k hk => h3 k (hv1 k hk))
  refine ⟨h.base, h.below, z, hz, fun k hk => hu k ((h4 k).2 ?_)⟩
  rcases (hzm k).1 hk with h0 | h0
  · exact .inl (hv1 k h0)
  · exact .inr h0

/-- It reads so as long as the frame stands. -/
def RdF (w0 : World) (B : Nat) (fs : List HP) (A : Option Addr) (xs : List Value) : Prop := ∀ w, Sep w0 B w fs → Rd w w.heap.size A xs
def RdRowsF (w0 : World) (B : Nat) (fs : List HP) (A : Option Addr) (hd : List Hd) (m : List (List Int)) : Prop := ∀ w, Sep w0 B w fs → RdRows w w.heap.size A hd m
theorem RdF.cut {c : Nat} {A : Option Addr} {α : Type} {f : α → Value} {xs : List α} {lo hi : Int} (h : RdF w0 B fs A (xs.map f)) (hb : 0 ≤ lo ∧ lo ≤ hi ∧ hi ≤ xs.length) (hc : xs.length ≤ c) : RdF w0 B fs (cutAddr A c lo) ((GL.cut xs lo hi).map f) := fun w hS => by
  rw [← cut_map]
  exact (h w hS).cut hb.1 hb.2.1 (by simpa using hb.2.2) (by simpa using hc)
theorem RdF.of {A : Option Addr} {xs : List Value} (h : Rd w0 w0.heap.size A xs) : RdF w0 w0.heap.size [] A xs := fun _ hS => h.sep hS
theorem RdRowsF.of {A : Option Addr} {hd : List Hd} {m : List (List Int)} (h : RdRows w0 w0.heap.size A hd m) : RdRowsF w0 w0.heap.size [] A hd m := fun _ hS => h.sep hS
end

/-! ### Slices of one-cell elements -/
def getd {α : Type} (z : α) (m : List α) (i : Int) : α := m.getD i.toNat z

section
variable {P : Program} {C : World → Prop} {hyps : List (Bool × Bool)} {w0 w : World} {B : Nat} {l r ps : List HP} {t e : TypeId} {inf : TypeInfo} {A : Option Addr} {n c : Nat} {α : Type} {f : α → Value} {m : List α} {i : Int}

theorem Sep.len1 (h : Sep w0 B w (l ++ own e (.slice A n c) (m.map f) :: r)) : n = m.length := by
  obtain ⟨g, hg, _⟩ := h.get
  simpa using own_len hg
theorem ob_ix1 {x : Bool} {k : IntKind} (ht : P.underlying t = some (.slice e)) (hi : P.info? e = some inf) (hs : inf.size = 1) (hr : Rd w B A (m.map f)) (hl : n = m.length) (h : (∀ y ∈ hyps, y.1 = y.2) → 0 ≤ i ∧ i < (n : Int)) :
    Ob.holds P C x ⟨true, hyps, vS (Instr.indexAt t (.slice A n c) (.int k i)), .pointer (some (sAddr A i))⟩ :=
  ob_index ht hi hs (fun h0 => hr.some (by simpa [← hl] using h0)) h

theorem rd_cell1 (z : α) (h : Rd w B A (m.map f)) (h0 : 0 ≤ i) (h1 : i < m.length) : w.cell? (sAddr A i) = some (f (getd z m i)) := by
  have hl : i.toNat < m.length := by omega
  obtain ⟨ad, rfl, _, hc⟩ := h i.toNat (f m[i.toNat]) (by simp [hl])
  simp only [sAddr, Option.getD_some, hc, getd]
  rw [List.getD_eq_getElem?_getD, List.getElem?_eq_getElem hl]
  rfl

theorem ob_get1 {x : Bool} (f : α → Value) (z : α) (hag : runPure P (isAgg t) = some false) (hr : ∀ w, C w → ∃ B, Rd w B A (m.map f)) (hl : ∀ w, C w → n = m.length) (h : (∀ y ∈ hyps, y.1 = y.2) → 0 ≤ i ∧ i < (n : Int)) :
    Ob.holds P C x ⟨false, hyps, vS (Instr.loadAt t (.pointer (some (sAddr A i)))), f (getd z m i)⟩ :=
  ob_load hag fun hy w hw => by
    obtain ⟨B, hr⟩ := hr w hw
    have := hl w hw
    exact rd_cell1 z hr (h hy).1 (by have := (h hy).2; omega)

end

/-! ### Arrays in blocks -/
section
variable {P : Program} {C : World → Prop} {hyps : List (Bool × Bool)} {w0 w : World} {B : Nat} {l r ps : List HP} {t e : TypeId} {inf : TypeInfo} {α : Type} {f : α → Value} {z : α} {n : Nat} {m : List α}

end


section
variable {P : Program} {C : World → Prop} {hyps : List (Bool × Bool)} {w0 w : World} {B : Nat} {l r ps qs : List HP} {t e ei : TypeId} {inf : TypeInfo} {A : Option Addr} {n c : Nat} {α : Type} {f : α → Value} {m : List α}

end

/-! ### Results of two kinds -/
def Fl.elim2 {α β γ : Type} (r : Fl α β) (f : α → γ) (g : β → γ) : γ := match r with | .go x => f x | .ret y => g y
def Fl.post {α β : Type} (r : Fl α β) (p : α → Prop) (q : β → Prop) : Prop := match r with | .go x => p x | .ret y => q y
section
variable {P : Program} {fn : Func} {R : Ending → World → Prop} {a : Act} {w : World} {n : Nat} {ρ : Env}
end

end Go.GL
