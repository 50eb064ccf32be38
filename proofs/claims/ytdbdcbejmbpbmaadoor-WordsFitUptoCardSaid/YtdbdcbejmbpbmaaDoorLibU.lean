/-
  A small library of our own: contracts over a frame of objects (fs), slices with a length of their own spelling, arrays in blocks.
-/
import Derived.Test.YtdbdcbejmbpbmaaDoorLibS
import Derived.Test.YtdbdcbejmbpbmaaDoorLibT
namespace Go.GL
open Go Go.RowKit
variable {Ds : List Nat} {ro : Option Nat}

section
variable {w0 w w' : World} {B : Nat} {p : HP} {l r ps qs fs : List HP}

theorem Sep.tl (h : Sep w0 B w (p :: ps)) : Sep w0 B w ps := by simpa using Sep.del (l := []) h
theorem Sep.dropN : ∀ {ps : List HP} (_ : Sep w0 B w ps) (k : Nat), Sep w0 B w (ps.drop k)
  | _, h, 0 => by simpa using h
  | [], h, k + 1 => by simpa using h
  | p :: ps, h, k + 1 => by simpa using Sep.dropN h.tl k

theorem SepL.unapp : ∀ {l : List HP} {u : List Nat}, SepL w (l ++ r) u → ∃ u1 u2, SepL w l u1 ∧ SepL w r u2 ∧ (∀ k ∈ u1, k ∉ u2) ∧ ∀ k, k ∈ u ↔ k ∈ u1 ∨ k ∈ u2
  | [], u, h => ⟨[], u, .nil, h, by simp, by simp⟩
  | p :: l, _, h => by
    cases h with
    | cons hp hs hd =>
      rename_i f u
      obtain ⟨u1, u2, h1, h2, h3, h4⟩ := SepL.unapp (l := l) hs
      refine ⟨f ++ u1, u2, .cons hp h1 (fun k hk hk' => hd k hk ((h4 k).2 (.inl hk'))), h2, fun k hk hk' => ?_, fun k => ?_⟩
      · rcases List.mem_append.1 hk with h0 | h0
        · exact hd k h0 ((h4 k).2 (.inr hk'))
        · exact h3 k h0 hk'
      · simp only [List.mem_append, h4, or_assoc]

/-- Some of the first 'n' objects, in another order; the others stay. -/
theorem Sep.pickN (h : Sep w0 B w ps) (n : Nat) (is : List Nat) (hn : is.Nodup) : Sep w0 B w (is.filterMap ((ps.take n)[·]?) ++ ps.drop n) := by
  obtain ⟨u, hs, hu⟩ := h.ex
  rw [← List.take_append_drop n ps] at hs
  obtain ⟨u1, u2, h1, h2, h3, h4⟩ := hs.unapp
  obtain ⟨F, f1, f2, f3⟩ := h1.fn
  obtain ⟨v, hv, hm⟩ := SepL.of_fn f1 f2 is hn
  have hv1 : ∀ k ∈ v, k ∈ u1 := fun k hk => by obtain ⟨i, _, hi, hki⟩ := hm k hk; exact f3 i k hi hki
  obtain ⟨z, hz, hzm⟩ := SepL.append hv h2 (fun k hk => h3 k (hv1 k hk))
  refine ⟨h.base, h.below, z, hz, fun k hk => hu k ((h4 k).2 ?_)⟩
  rcases (hzm k).1 hk with h0 | h0
  · exact .inl (hv1 k h0)
  · exact .inr h0

/-- A quiet call under some of the objects. -/
theorem quiet_pick {P : Program} {f : FuncId} {args : Array Value} {v : Value} (h : Sep w0 B w ps) (n : Nat) (is : List Nat) (hn : is.Nodup) (js : List Nat) (hj : js.Nodup) {qs : List HP} (hq : is.filterMap ((ps.take n)[·]?) ++ ps.drop n = qs)
    (k : Sep w0 B w qs → Calls P f args w fun e w' => e = .returned v ∧ Sep w0 B w' qs) (m : Nat) (he : js.filterMap ((qs.take m)[·]?) ++ qs.drop m = ps) :
    Calls P f args w fun e w' => e = .returned v ∧ Sep w0 B w' ps := by
  have h1 := h.pickN n is hn
  rw [hq] at h1
  refine (k h1).mono ?_
  rintro e w' ⟨h2, h3⟩
  have h4 := h3.pickN m js hj
  rw [he] at h4
  exact ⟨h2, h4⟩

/-- It reads so as long as the frame stands. -/
def RdF (w0 : World) (B : Nat) (fs : List HP) (A : Option Addr) (xs : List Value) : Prop := ∀ w, Sep w0 B w fs → Rd w w.heap.size A xs
def RdRowsF (w0 : World) (B : Nat) (fs : List HP) (A : Option Addr) (hd : List Hd) (m : List (List Int)) : Prop := ∀ w, Sep w0 B w fs → RdRows w w.heap.size A hd m
theorem RdF.cut {c : Nat} {A : Option Addr} {α : Type} {f : α → Value} {xs : List α} {lo hi : Int} (h : RdF w0 B fs A (xs.map f)) (hb : 0 ≤ lo ∧ lo ≤ hi ∧ hi ≤ xs.length) (hc : xs.length ≤ c) : RdF w0 B fs (cutAddr A c lo) ((GL.cut xs lo hi).map f) := fun w hS => by
  rw [← cut_map]
  exact (h w hS).cut hb.1 hb.2.1 (by simpa using hb.2.2) (by simpa using hc)
theorem RdF.of {A : Option Addr} {xs : List Value} (h : Rd w0 w0.heap.size A xs) : RdF w0 w0.heap.size [] A xs := fun _ hS => h.sep hS
theorem RdRowsF.of {A : Option Addr} {hd : List Hd} {m : List (List Int)} (h : RdRows w0 w0.heap.size A hd m) : RdRowsF w0 w0.heap.size [] A hd m := fun _ hS => h.sep hS
theorem Rd.cutF {w : World} {B c : Nat} {A : Option Addr} {α : Type} {f : α → Value} {xs : List α} {lo hi : Int} (h : Rd w B A (xs.map f)) (hb : 0 ≤ lo ∧ lo ≤ hi ∧ hi ≤ xs.length) (hc : xs.length ≤ c) : Rd w B (cutAddr A c lo) ((GL.cut xs lo hi).map f) := by
  rw [← cut_map]
  exact h.cut hb.1 hb.2.1 (by simpa using hb.2.2) (by simpa using hc)
end

/-! ### Slices of one-cell elements -/
def getd {α : Type} (z : α) (m : List α) (i : Int) : α := m.getD i.toNat z

section
variable {P : Program} {C : World → Prop} {hyps : List (Bool × Bool)} {w0 w : World} {B : Nat} {l r ps : List HP} {t e : TypeId} {inf : TypeInfo} {A : Option Addr} {n c : Nat} {α : Type} {f : α → Value} {m : List α} {i : Int}

theorem Sep.len1 (h : Sep w0 B w (l ++ own e (.slice A n c) (m.map f) :: r)) : n = m.length := by
  obtain ⟨g, hg, _⟩ := h.get
  simpa using own_len hg
theorem Sep.cap1 (h : Sep w0 B w (l ++ own e (.slice A n c) (m.map f) :: r)) : m.length ≤ c := by
  have := h.len1
  have := h.cap
  omega
theorem ob_ix1 {x : Bool} {k : IntKind} (ht : P.underlying t = some (.slice e)) (hi : P.info? e = some inf) (hs : inf.size = 1) (hr : Rd w B A (m.map f)) (hl : n = m.length) (h : (∀ y ∈ hyps, y.1 = y.2) → 0 ≤ i ∧ i < (n : Int)) :
    Ob.holds P C x ⟨true, hyps, vS (Instr.indexAt t (.slice A n c) (.int k i)), .pointer (some (sAddr A i))⟩ :=
  ob_index ht hi hs (fun h0 => hr.some (by simpa [← hl] using h0)) h

theorem rd_cell1 (z : α) (h : Rd w B A (m.map f)) (h0 : 0 ≤ i) (h1 : i < m.length) : w.cell? (sAddr A i) = some (f (getd z m i)) := by
  have hl : i.toNat < m.length := by omega
  obtain ⟨ad, rfl, _, hc⟩ := h i.toNat (f m[i.toNat]) (by simp [hl])
  simp only [sAddr, Option.getD_some, hc, getd]
  rw [List.getD_eq_getElem?_getD, List.getElem?_eq_getElem hl]
  rfl

theorem ob_get1 {x : Bool} (f : α → Value) (z : α) (hag : runPure P (isAgg t) = some false) (hr : ∀ w, C w → ∃ B, Rd w B A (m.map f)) (hl : ∀ w, C w → n = m.length) (h : (∀ y ∈ hyps, y.1 = y.2) → 0 ≤ i ∧ i < (n : Int)) :
    Ob.holds P C x ⟨false, hyps, vS (Instr.loadAt t (.pointer (some (sAddr A i)))), f (getd z m i)⟩ :=
  ob_load hag fun hy w hw => by
    obtain ⟨B, hr⟩ := hr w hw
    have := hl w hw
    exact rd_cell1 z hr (h hy).1 (by have := (h hy).2; omega)

theorem run_set1 {x : α} (f : α → Value) (hS : Sep w0 B w (l ++ own e (.slice A n c) (m.map f) :: r)) (hi : P.info? t = some inf) (hs : inf.size = 1) (hc : (f x).cells = #[f x]) (h1 : (f x).oneCell' = true) (hb : 0 ≤ i ∧ i < (n : Int)) :
    ∃ w', (uS (Instr.storeAt t (.pointer (some (sAddr A i))) (f x))).run P w = .ok .skip w' ∧ Sep w0 B w' (l ++ own e (.slice A n c) ((m.set i.toNat x).map f) :: r) := by
  have hl := hS.len1
  have := run_set (P := P) (t := t) (u := f x) hS hi hs hc h1 hb.1 (by simpa [← hl] using hb.2)
  simpa [List.map_set] using this

theorem run_mk1 (f : α → Value) (z : α) (hS : Sep w0 B w ps) (kl kc : IntKind) {n : Int} (ht : P.underlying t = some (.slice e)) (hi : P.info? e = some inf) (hz : inf.zero = some (f z)) (hs : inf.size = 1) (hby : inf.bytes ≤ 16) (hc : (f z).cells = #[f z]) (hb : 0 ≤ n ∧ n ≤ bigN) :
    ∃ A c w', (vS (Instr.makeSlice t (.int kl n) (.int kc n))).run P w = .ok (.value (.slice A n.toNat c)) w' ∧ Sep w0 B w' (own e (.slice A n.toNat c) ((List.replicate n.toNat z).map f) :: ps) := by
  obtain ⟨A, c, w', h1, h2⟩ := run_mk (P := P) hS (z := f z) kl kc ht hi hz hs hby hc hb.1 hb.2
  exact ⟨A, c, w', by simpa using h1, by simpa using h2⟩

theorem Rd.none1 {f : α → Value} {l : List α} (h : Rd w B none (l.map f)) : l = [] := h.none_nil
end

/-! ### Arrays in blocks -/
def arr1 {α : Type} (f : α → Value) (z : α) (n : Nat) (m : List α) : List Value := (List.range n).map fun i => f (m.getD i z)

section
variable {P : Program} {C : World → Prop} {hyps : List (Bool × Bool)} {w0 w : World} {B : Nat} {l r ps : List HP} {t e : TypeId} {inf : TypeInfo} {α : Type} {f : α → Value} {z : α} {n : Nat} {m : List α}

end


section
variable {P : Program} {C : World → Prop} {hyps : List (Bool × Bool)} {w0 w : World} {B : Nat} {l r ps qs : List HP} {t e ei : TypeId} {inf : TypeInfo} {A : Option Addr} {n c : Nat} {α : Type} {f : α → Value} {m : List α}

theorem Sep.reLen (h : Sep w0 B w (l ++ own e (.slice A n c) (m.map f) :: r)) : Sep w0 B w (l ++ own e (.slice A m.length c) (m.map f) :: r) := by
  have := h.len1
  subst this
  exact h
theorem Sep.reN {n' : Nat} (h : Sep w0 B w (l ++ own e (.slice A n c) (m.map f) :: r)) (he : n = n') : Sep w0 B w (l ++ own e (.slice A n' c) (m.map f) :: r) := he ▸ h
theorem cutb {lo hi : Int} (hl : n = m.length) (h : 0 ≤ lo ∧ lo ≤ hi ∧ hi ≤ (n : Int)) : 0 ≤ lo ∧ lo ≤ hi ∧ hi ≤ (m.length : Int) := by omega

theorem Sep.prefixN {lo hi : Int} (h : Sep w0 B w (l ++ own e (.slice A n c) (m.map f) :: r)) (h0 : lo = 0) (hb : 0 ≤ lo ∧ lo ≤ hi ∧ hi ≤ (m.length : Int)) :
    Sep w0 B w (l ++ own e (.slice (cutAddr A c lo) (cut m lo hi).length (c - Int.toNat lo)) ((cut m lo hi).map f) :: r) := by
  have h := h.reLen
  subst h0
  have hx : cut m 0 hi = m.take hi.toNat := by simp [cut]
  have hA : cutAddr A c 0 = A := by
    unfold cutAddr
    split
    · rfl
    · cases A <;> rfl
  rw [hx, hA]
  refine h.upd fun f' ⟨hf, hff⟩ hfb => ⟨f', ⟨⟨by simp, ?_⟩, by rw [hff]; cases A <;> simp [Value.ownBlock]⟩, (Ex.refl w).mono (by simp), fun k hk => .inl hk, fun k hk => (hfb k hk).2⟩
  have hm : min hi.toNat m.length = hi.toNat := by omega
  rcases hf.2 with ⟨hv, h2⟩ | ⟨g, cap, cur, hv, h1, hg, h2, h3, h4, h5⟩
  · injection hv with hA hn hc
    subst hA; subst hc
    have : m = [] := by simpa using h2
    subst this
    left
    simp
  · injection hv with hA hn hc
    subst hA; subst hc
    right
    refine ⟨g, c, cur, by simp, h1, hg, ?_, h3, h4, ?_⟩
    · simp at h2 ⊢; omega
    · simp only [List.length_map, List.length_take] at h5 ⊢
      rw [List.map_take]
      have h6 := congrArg (List.take (min hi.toNat m.length)) h5
      simp only [List.take_take, Nat.mul_one] at h6 ⊢
      rw [Nat.min_eq_left (Nat.min_le_right _ _)] at h6
      rw [h6, hm]

theorem ob_cutn {x : Bool} {α : Type} {l : List α} {lo hi : Int} {vlo vhi : Option Value} {k k' : IntKind} (ht : P.underlying t = some (.slice e)) (hi' : P.info? e = some inf) (hs : inf.size = 1) (hl : n = l.length)
    (hlo : vlo = some (.int k lo) ∨ vlo = none ∧ lo = 0) (hhi : vhi = some (.int k' hi) ∨ vhi = none ∧ hi = (n : Int)) (h : (∀ y ∈ hyps, y.1 = y.2) → 0 ≤ lo ∧ lo ≤ hi ∧ hi ≤ (l.length : Int)) (h3 : l.length ≤ c) :
    Ob.holds P C x ⟨true, hyps, vS (Instr.sliceAt t (.slice A n c) vlo vhi none), .slice (cutAddr A c lo) (cut l lo hi).length (c - lo.toNat)⟩ := by
  subst hl
  exact ob_cut ht hi' hs hlo hhi h h3

end

/-! ### Results of two kinds -/
def Fl.post {α β : Type} (r : Fl α β) (p : α → Prop) (q : β → Prop) : Prop := match r with | .go x => p x | .ret y => q y
section
variable {P : Program} {fn : Func} {R : Ending → World → Prop} {a : Act} {w : World} {n : Nat} {ρ : Env}
end

end Go.GL
