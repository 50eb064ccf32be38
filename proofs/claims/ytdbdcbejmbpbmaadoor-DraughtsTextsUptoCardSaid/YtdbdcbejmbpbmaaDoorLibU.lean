/-
  A small library of our own: contracts over a frame of objects (fs), slices with a length of their own spelling, arrays in blocks.
-/
import Derived.Test.YtdbdcbejmbpbmaaDoorLibS
import Derived.Test.YtdbdcbejmbpbmaaDoorLibT
namespace Go.GL
open Go Go.RowKit
variable {Ds : List Nat} {ro : Option Nat}

section
variable {w0 w w' : World} {B : Nat} {p : HP} {l r ps qs fs : List HP}

theorem Sep.tl (h : Sep w0 B w (p :: ps)) : Sep w0 B w ps := by simpa using Sep.del (l := []) h
theorem Sep.dropN : ∀ {ps : List HP} (_ : Sep w0 B w ps) (k : Nat), Sep w0 B w (ps.drop k)
  | _, h, 0 => by simpa using h
  | [], h, k + 1 => by simpa using h
  | p :: ps, h, k + 1 => by simpa using Sep.dropN h.tl k

theorem SepL.unapp : ∀ {l : List HP} {u : List Nat}, SepL w (l ++ r) u → ∃ u1 u2, SepL w l u1 ∧ SepL w r u2 ∧ (∀ k ∈ u1, k ∉ u2) ∧ ∀ k, k ∈ u ↔ k ∈ u1 ∨ k ∈ u2
  | [], u, h => ⟨[], u, .nil, h, by simp, by simp⟩
  | p :: l, _, h => by
    cases h with
    | cons hp hs hd =>
      rename_i f u
      obtain ⟨u1, u2, h1, h2, h3, h4⟩ := SepL.unapp (l := l) hs
      refine ⟨f ++ u1, u2, .cons hp h1 (fun k hk hk' => hd k hk ((h4 k).2 (.inl hk'))), h2, fun k hk hk' => ?_, fun k => ?_⟩
      · rcases List.mem_append.1 hk with h0 | h0
        · exact hd k h0 ((h4 k).2 (.inr hk'))
        · exact h3 k h0 hk'
      · simp only [List.mem_append, h4, or_assoc]

/-- Some of the first 'n' objects, in another order; the others stay. -/
theorem Sep.pickN (h : Sep w0 B w ps) (n : Nat) (is : List Nat) (hn : is.Nodup) : Sep w0 B w (is.filterMap ((ps.take n)[·]?) ++ ps.drop n) := by
  obtain ⟨u, hs, hu⟩ := h.ex
  rw [← List.take_append_drop n ps] at hs
  obtain ⟨u1, u2, h1, h2, h3, h4⟩ := hs.unapp
  obtain ⟨F, f1, f2, f3⟩ := h1.fn
  obtain ⟨v, hv, hm⟩ := SepL.of_fn f1 f2 is hn
  have hv1 : ∀ k ∈ v, k ∈ u1 := fun k hk => by obtain ⟨i, _, hi, hki⟩ := hm k hk; exact f3 i k hi hki
  obtain ⟨z, hz, hzm⟩ := SepL.append hv h2 (fun k hk => h3 k (hv1 k hk))
  refine ⟨h.base, h.below, z, hz, fun k hk => hu k ((h4 k).2 ?_)⟩
  rcases (hzm k).1 hk with h0 | h0
  · exact .inl (hv1 k h0)
  · exact .inr h0

/-- It reads so as long as the frame stands. -/
def RdF (w0 : World) (B : Nat) (fs : List HP) (A : Option Addr) (xs : List Value) : Prop := ∀ w, Sep w0 B w fs → Rd w w.heap.size A xs
def RdRowsF (w0 : World) (B : Nat) (fs : List HP) (A : Option Addr) (hd : List Hd) (m : List (List Int)) : Prop := ∀ w, Sep w0 B w fs → RdRows w w.heap.size A hd m
theorem RdF.cut {c : Nat} {A : Option Addr} {α : Type} {f : α → Value} {xs : List α} {lo hi : Int} (h : RdF w0 B fs A (xs.map f)) (hb : 0 ≤ lo ∧ lo ≤ hi ∧ hi ≤ xs.length) (hc : xs.length ≤ c) : RdF w0 B fs (cutAddr A c lo) ((GL.cut xs lo hi).map f) := fun w hS => by
  rw [← cut_map]
  exact (h w hS).cut hb.1 hb.2.1 (by simpa using hb.2.2) (by simpa using hc)
theorem RdF.of {A : Option Addr} {xs : List Value} (h : Rd w0 w0.heap.size A xs) : RdF w0 w0.heap.size [] A xs := fun _ hS => h.sep hS
theorem RdRowsF.of {A : Option Addr} {hd : List Hd} {m : List (List Int)} (h : RdRows w0 w0.heap.size A hd m) : RdRowsF w0 w0.heap.size [] A hd m := fun _ hS => h.sep hS
end

/-! ### Slices of one-cell elements -/
def getd {α : Type} (z : α) (m : List α) (i : Int) : α := m.getD i.toNat z

section
variable {P : Program} {C : World → Prop} {hyps : List (Bool × Bool)} {w0 w : World} {B : Nat} {l r ps : List HP} {t e : TypeId} {inf : TypeInfo} {A : Option Addr} {n c : Nat} {α : Type} {f : α → Value} {m : List α} {i : Int}

theorem Sep.len1 (h : Sep w0 B w (l ++ own e (.slice A n c) (m.map f) :: r)) : n = m.length := by
  obtain ⟨g, hg, _⟩ := h.get
  simpa using own_len hg
theorem Sep.cap1 (h : Sep w0 B w (l ++ own e (.slice A n c) (m.map f) :: r)) : m.length ≤ c := by
  have := h.len1
  have := h.cap
  omega
theorem ob_ix1 {x : Bool} {k : IntKind} (ht : P.underlying t = some (.slice e)) (hi : P.info? e = some inf) (hs : inf.size = 1) (hr : Rd w B A (m.map f)) (hl : n = m.length) (h : (∀ y ∈ hyps, y.1 = y.2) → 0 ≤ i ∧ i < (n : Int)) :
    Ob.holds P C x ⟨true, hyps, vS (Instr.indexAt t (.slice A n c) (.int k i)), .pointer (some (sAddr A i))⟩ :=
  ob_index ht hi hs (fun h0 => hr.some (by simpa [← hl] using h0)) h

theorem rd_cell1 (z : α) (h : Rd w B A (m.map f)) (h0 : 0 ≤ i) (h1 : i < m.length) : w.cell? (sAddr A i) = some (f (getd z m i)) := by
  have hl : i.toNat < m.length := by omega
  obtain ⟨ad, rfl, _, hc⟩ := h i.toNat (f m[i.toNat]) (by simp [hl])
  simp only [sAddr, Option.getD_some, hc, getd]
  rw [List.getD_eq_getElem?_getD, List.getElem?_eq_getElem hl]
  rfl

theorem ob_get1 {x : Bool} (f : α → Value) (z : α) (hag : runPure P (isAgg t) = some false) (hr : ∀ w, C w → ∃ B, Rd w B A (m.map f)) (hl : ∀ w, C w → n = m.length) (h : (∀ y ∈ hyps, y.1 = y.2) → 0 ≤ i ∧ i < (n : Int)) :
    Ob.holds P C x ⟨false, hyps, vS (Instr.loadAt t (.pointer (some (sAddr A i)))), f (getd z m i)⟩ :=
  ob_load hag fun hy w hw => by
    obtain ⟨B, hr⟩ := hr w hw
    have := hl w hw
    exact rd_cell1 z hr (h hy).1 (by have := (h hy).2; omega)

theorem run_app1 (f : α → Value) (z : α) {ys : List α} {A2 : Option Addr} {m2 c2 : Nat} (hS : Sep w0 B w (l ++ own e (.slice A n c) (m.map f) :: r)) (hr : Rd w w.heap.size A2 (ys.map f)) (hm : m2 = ys.length) (ty : TypeId)
    (ht : P.underlying t = some (.slice e)) (hi : P.info? e = some inf) (hz : inf.zero = some (f z)) (hs : inf.size = 1) (hby : inf.bytes ≤ 8) (hc : (f z).cells = #[f z]) (h1 : ∀ a, (f a).oneCell' = true) (hl : (n : Int) + m2 ≤ bigN) :
    ∃ A' c' w', (vS (Builtin.append_ #[t, t] ty #[.slice A n c, .slice A2 m2 c2])).run P w = .ok (.value (.slice A' (m ++ ys).length c')) w' ∧ Sep w0 B w' (l ++ own e (.slice A' (m ++ ys).length c') ((m ++ ys).map f) :: r) := by
  have hn := hS.len1
  obtain ⟨A', c', w', h2, h3⟩ := run_app (P := P) (t := t) (z := f z) hS hr (by simpa using hm) ty ht hi hz hs hby hc (by
    intro u hu
    obtain ⟨a, _, rfl⟩ := List.mem_map.1 hu
    exact h1 a) (by simp only [List.length_map]; omega)
  exact ⟨A', c', w', by simpa using h2, by simpa using h3⟩

theorem Rd.none1 {f : α → Value} {l : List α} (h : Rd w B none (l.map f)) : l = [] := h.none_nil
end

/-! ### Arrays in blocks -/
section
variable {P : Program} {C : World → Prop} {hyps : List (Bool × Bool)} {w0 w : World} {B : Nat} {l r ps : List HP} {t e : TypeId} {inf : TypeInfo} {α : Type} {f : α → Value} {z : α} {n : Nat} {m : List α}

end


section
variable {P : Program} {C : World → Prop} {hyps : List (Bool × Bool)} {w0 w : World} {B : Nat} {l r ps qs : List HP} {t e ei : TypeId} {inf : TypeInfo} {A : Option Addr} {n c : Nat} {α : Type} {f : α → Value} {m : List α}

theorem Sep.reN {n' : Nat} (h : Sep w0 B w (l ++ own e (.slice A n c) (m.map f) :: r)) (he : n = n') : Sep w0 B w (l ++ own e (.slice A n' c) (m.map f) :: r) := he ▸ h
theorem Sep.reBlk {g : Nat} {cs cs' : Array Value} (h : Sep w0 B w (l ++ blk g e cs :: r)) (he : cs = cs') : Sep w0 B w (l ++ blk g e cs' :: r) := he ▸ h
end

/-! ### Results of two kinds -/
def Fl.elim2 {α β γ : Type} (r : Fl α β) (f : α → γ) (g : β → γ) : γ := match r with | .go x => f x | .ret y => g y
def Fl.post {α β : Type} (r : Fl α β) (p : α → Prop) (q : β → Prop) : Prop := match r with | .go x => p x | .ret y => q y
section
variable {P : Program} {fn : Func} {R : Ending → World → Prop} {a : Act} {w : World} {n : Nat} {ρ : Env}
theorem end_cut {c : Code} {Q : Exit → Act → World → Prop} (K : Act → World → Prop) (h1 : ∀ a w, K a w → Q .normal a w) (h2 : c.wpIn (RF ro) 9 P (Exit.then K Q) a w) : c.wpIn (RF ro) 9 P Q a w := by
  refine Go.Code.wpIn_mono ?_ h2
  intro e a w h
  cases e with
  | normal => exact h1 a w h
  | _ => exact h
theorem endV {vs : List Value} {V : Value} (rs : List ResultVar) (hF : FrD [] n ρ a) (hr : fn.results = rs.toArray) (h : RVals P ρ w rs vs) (hV : tupOf vs = V) (hR : R (.returned V) w) (h0 : rs = []) : bodyR P fn R .normal a w := by
  subst h0
  cases vs with
  | nil => subst hV; exact bodyR_end (results_none hr _ _ _) hF.defers hR
  | cons v vs => exact h.elim
end

end Go.GL
