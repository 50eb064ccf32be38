/-
  A small library of our own: rows of several owners behind one outer slice (a bag keeps what is the call's own); a full slice appended to.
-/
import Derived.Test.YtlpaklmfgldkoaaLibHd
import Derived.Test.YtlpaklmfgldkoaaLibU
namespace Go.GL
open Go Go.RowKit

/-- Nothing. -/
def noB : HP where
  at_ _ f := f = []
  loc := fun _ h => h
/-- Two side by side. -/
def twoB (a b : HP) : HP where
  at_ w f := SepL w [a, b] f
  loc := fun hk h => h.loc hk

/-- What a bag keeps makes the rows readable. -/
def BagOk (w0 : World) (B : Nat) (fs : List HP) (bg : HP) (hd : List Hd) (m : List (List Int)) : Prop := ∀ w, Sep w0 B w (bg :: fs) → RowsAll w w.heap.size hd m

section
variable {w0 w : World} {B : Nat} {ps fs l r : List HP} {a b bg : HP} {hd : List Hd} {m : List (List Int)} {e ei : TypeId}

theorem Sep.noB (h : Sep w0 B w ps) : Sep w0 B w (noB :: ps) := h.add (Ex.refl w) (f := []) rfl (by simp)
theorem BagOk.nil : BagOk w0 B fs noB [] [] := fun _ _ => trivial

theorem Sep.two (h : Sep w0 B w (a :: b :: ps)) : Sep w0 B w (twoB a b :: ps) := by
  obtain ⟨u, hs, hu⟩ := h.ex
  refine ⟨h.base, h.below, ?_⟩
  cases hs with
  | @cons _ _ f1 u1 ha h1 d1 =>
    cases h1 with
    | @cons _ _ f2 u2 hb h2 d2 =>
      have h3 : SepL w [a, b] (f1 ++ (f2 ++ [])) := .cons ha (.cons hb .nil (by simp)) (fun k hk hk' => d1 k hk (by simp at hk' ⊢; exact .inl hk'))
      refine ⟨_, SepL.cons (p := twoB a b) h3 h2 (fun k hk => ?_), fun k hk => hu k ?_⟩
      · simp only [List.append_nil, List.mem_append] at hk
        rcases hk with h | h
        · intro h'
          exact d1 k h (by simp [h'])
        · exact d2 k h
      · simp only [List.append_nil, List.mem_append] at hk ⊢
        rcases hk with (h | h) | h
        · exact .inl h
        · exact .inr (.inl h)
        · exact .inr (.inr h)
theorem Sep.untwo (h : Sep w0 B w (twoB a b :: ps)) : Sep w0 B w (a :: b :: ps) := by
  obtain ⟨u, hs, hu⟩ := h.ex
  refine ⟨h.base, h.below, ?_⟩
  cases hs with
  | @cons _ _ f1 u1 hab h1 d1 =>
    have hab' : SepL w [a, b] f1 := hab
    cases hab' with
    | @cons _ _ g1 v1 ha h2 d2 =>
      cases h2 with
      | @cons _ _ g2 v2 hb h3 d3 =>
        cases h3
        refine ⟨_, SepL.cons ha (SepL.cons hb h1 (fun k hk => d1 k (by simp [hk]))) (fun k hk hk' => ?_), fun k hk => hu k ?_⟩
        · rcases List.mem_append.1 hk' with h | h
          · exact d2 k hk (by simp [h])
          · exact d1 k (by simp [hk]) h
        · simp only [List.append_nil, List.mem_append] at hk ⊢
          rcases hk with h | h | h
          · exact .inl (.inl h)
          · exact .inl (.inr h)
          · exact .inr h

theorem BagOk.row {A : Option Addr} {c : Nat} {x : List Int} (h : BagOk w0 B fs bg hd m) (hr : ∀ w, Sep w0 B w (bg :: fs) → Rd w w.heap.size A (vI x) ∧ x.length ≤ c) : BagOk w0 B fs bg (hd ++ [(A, c)]) (m ++ [x]) :=
  fun w hS => (h w hS).app ⟨hr w hS, trivial⟩
theorem BagOk.own {A : Option Addr} {c : Nat} {x : List Int} (h : BagOk w0 B fs bg hd m) : BagOk w0 B fs (twoB (Go.GL.own ei (.slice A x.length c) (vI x)) bg) (hd ++ [(A, c)]) (m ++ [x]) :=
  fun w hS => by
    have h2 := hS.untwo
    have h3 : Sep w0 B w (bg :: fs) := by simpa using h2.dropN 1
    exact (h w h3).app ⟨⟨(h2.at_ 0 rfl).rd, (h2.at_ 0 rfl).cap1⟩, trivial⟩
end

section
variable {P : Program} {w0 w : World} {B : Nat} {ps : List HP} {t e : TypeId} {inf : TypeInfo} {α : Type}

/-- Something appended to a slice that is full: a new row. -/
theorem run_appFull (f : α → Value) (z : α) {m ys : List α} {A A2 : Option Addr} {n m2 c c2 : Nat} (hS : Sep w0 B w ps) (hx : Rd w w.heap.size A (m.map f)) (hn : n = m.length) (hc : c = n) (hr : Rd w w.heap.size A2 (ys.map f)) (hm : m2 = ys.length) (hne : ys.length ≠ 0) (ty : TypeId)
    (ht : P.underlying t = some (.slice e)) (hi : P.info? e = some inf) (hz : inf.zero = some (f z)) (hs : inf.size = 1) (hby : inf.bytes = 8) (h1c : (f z).cells = #[f z]) (hl : (n : Int) + m2 ≤ bigN) :
    ∃ A' c' w', (vS (Builtin.append_ #[t, t] ty #[.slice A n c, .slice A2 m2 c2])).run P w = .ok (.value (.slice A' (m ++ ys).length c')) w' ∧ Sep w0 B w' (own e (.slice A' (m ++ ys).length c') ((m ++ ys).map f) :: ps) := by
  subst hn; subst hm; subst hc
  have hl' : m.length + ys.length ≤ 17592186044416 := by unfold bigN at hl; omega
  obtain ⟨a2, rfl⟩ : ∃ a, A2 = some a := by
    cases A2 with
    | none => exact absurd (by rw [hr.none1]; rfl) hne
    | some a => exact ⟨a, rfl⟩
  have hnews : ∀ j v, (ys.map f)[j]? = some v → w.cell? (a2.add j) = some v := fun j v hv => by
    obtain ⟨ad, h, _, hcell⟩ := hr j v hv
    injection h with h
    subst h
    exact hcell
  have add : ∀ cap : Nat, m.length + ys.length ≤ cap → cap ≤ maxLen →
      Sep w0 B (w.drew.alloc (.cells (((m ++ ys).map f).toArray ++ Builtin.zeroCells (f z).cells (cap - (m.length + ys.length))) e)) (own e (.slice (some ⟨w.heap.size, 0, none⟩) (m ++ ys).length cap) ((m ++ ys).map f) :: ps) := fun cap hge hcm => by
    refine hS.add ⟨rfl, rfl, rfl, by simp, fun k hk _ => heap_alloc_old w.drew _ hk⟩ (f := [w.heap.size]) ⟨⟨by simp, .inr ⟨w.heap.size, _, _, ?_, Nat.zero_le _, heap_alloc_new w.drew _, ?_, hcm, ?_, ?_⟩⟩, by simp [Value.ownBlock]⟩ ?_
    · simp
    · simpa using hge
    · rw [h1c]
      simp [size_zeroCells]; omega
    · rw [Array.toList_append]
      exact List.take_left' (by simp)
    · intro k hk
      simp at hk
      subst hk
      simp
  cases A with
  | none =>
    have hm0 : m = [] := hx.none1
    subst hm0
    refine ⟨_, _, _, vS_run ?_, add (grownCap w ys.length 0 e) ?_ ?_⟩
    · have := run_append_nil (P := P) (w := w) t ty e inf (f z) ht hi hz a2 ys.length c2 (ys.map f) (by simp [hs]) hnews (by omega) (by omega) (by rw [hby]; omega)
      simpa using this
    · simpa using grownCap_ge w ys.length 0 e
    · exact grownCap_le_maxLen w ys.length 0 e (by unfold maxLen; omega)
  | some a =>
    have holds : ∀ j v, (m.map f)[j]? = some v → w.cell? (a.add j) = some v := fun j v hv => by
      obtain ⟨ad, h, _, hcell⟩ := hx j v hv
      injection h with h
      subst h
      exact hcell
    refine ⟨_, _, _, vS_run ?_, add (grownCap w (m.length + ys.length) m.length e) ?_ ?_⟩
    · have hfit : Builtin.nextslicecap (m.length + ys.length) m.length * inf.bytes ≤ 281474976710656 := growslice_fits (by omega) (by rw [hby]; omega)
      have := run_append_grow (P := P) (w := w) t ty e inf (f z) ht hi hz a m.length m.length (m.map f) (by simp [hs]) holds a2 ys.length c2 (ys.map f) (by simp [hs]) hnews (by omega) (by omega) hfit
      simpa using this
    · exact grownCap_ge w _ _ e
    · exact grownCap_le_maxLen w _ _ e (by unfold maxLen; omega)
end
end Go.GL
namespace Go.GL
open Go Go.RowKit
section
variable {P : Program} {C : World → Prop} {hyps : List (Bool × Bool)} {t e : TypeId} {inf : TypeInfo} {A : Option Addr} {n c : Nat} {w0 w : World} {B : Nat} {ps fs : List HP} {bg : HP} {hd : List Hd} {m : List (List Int)}

theorem add0 (a : Addr) : a.add 0 = a := by
  cases a
  simp [Addr.add]

/-- A slice without its spare. -/
theorem ob_full {x : Bool} {k k' : IntKind} (ht : P.underlying t = some (.slice e)) (hi' : P.info? e = some inf) (hs : inf.size = 1) (h : n ≤ c) :
    Ob.holds P C x ⟨true, hyps, vS (Instr.sliceAt t (.slice A n c) none (some (.int k n)) (some (.int k' n))), .slice A n n⟩ :=
  Ob.any fun hy w => by
    have e0 : (fun a : Addr => a.add 0) = id := funext add0
    simp [Instr.sliceAt, Instr.slice, Instr.sliceBounds, Instr.sliceBound, run_underlying ht, asIntOf, sizeOf, typeInfo, hi', hs, h, e0]

theorem BagOk.at_ (h : BagOk w0 B fs bg hd m) (hS : Sep w0 B w ps) (n i : Nat) (hin : i < n) (hi : ps[i]? = some bg) (hd' : ps.drop n = fs) : RowsAll w w.heap.size hd m :=
  h w (by
    have := hS.pickN n [i] (by simp)
    rw [hd'] at this
    have e : (ps.take n)[i]? = some bg := by rw [List.getElem?_take, if_pos hin, hi]
    simpa [e] using this)
end
end Go.GL
