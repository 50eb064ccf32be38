/-
  A small library of our own: contracts over a frame of objects (fs), slices with a length of their own spelling, arrays in blocks.
-/
import Derived.Test.YtdjjomghggplpaaLibS
import Derived.Test.YtdjjomghggplpaaLibT
namespace Go.GL
open Go Go.RowKit
variable {Ds : List Nat} {ro : Option Nat}

section
variable {w0 w w' : World} {B : Nat} {p : HP} {l r ps qs fs : List HP}

theorem Sep.tl (h : Sep w0 B w (p :: ps)) : Sep w0 B w ps := by simpa using Sep.del (l := []) h
theorem Sep.dropN : ∀ {ps : List HP} (_ : Sep w0 B w ps) (k : Nat), Sep w0 B w (ps.drop k)
  | _, h, 0 => by simpa using h
  | [], h, k + 1 => by simpa using h
  | p :: ps, h, k + 1 => by simpa using Sep.dropN h.tl k

theorem SepL.unapp : ∀ {l : List HP} {u : List Nat}, SepL w (l ++ r) u → ∃ u1 u2, SepL w l u1 ∧ SepL w r u2 ∧ (∀ k ∈ u1, k ∉ u2) ∧ ∀ k, k ∈ u ↔ k ∈ u1 ∨ k ∈ u2
  | [], u, h => ⟨[], u, .nil, h, by simp, by simp⟩
  | p :: l, _, h => by
    cases h with
    | cons hp hs hd =>
      rename_i f u
      obtain ⟨u1, u2, h1, h2, h3, h4⟩ := SepL.unapp (l := l) hs
      refine ⟨f ++ u1, u2, .cons hp h1 (fun k hk hk' => hd k hk ((h4 k).2 (.inl hk'))), h2, fun k hk hk' => ?_, fun k => ?_⟩
      · rcases List.mem_append.1 hk with h0 | h0
        · exact hd k h0 ((h4 k).2 (.inr hk'))
        · exact h3 k h0 hk'
      · simp only [List.mem_append, h4, or_assoc]

/-- Some of the first 'n' objects, in another order; the others stay. -/
theorem Sep.pickN (h : Sep w0 B w ps) (n : Nat) (is : List Nat) (hn : is.Nodup) : Sep w0 B w (is.filterMap ((ps.take n)[·]?) ++ ps.drop n) := by
  obtain ⟨u, hs, hu⟩ := h.ex
  rw [← List.take_append_drop n ps] at hs
  obtain ⟨u1, u2, h1, h2, h3, h4⟩ := hs.unapp
  obtain ⟨F, f1, f2, f3⟩ := h1.fn
  obtain ⟨v, hv, hm⟩ := SepL.of_fn f1 f2 is hn
  have hv1 : ∀ k ∈ v, k ∈ u1 := fun k hk => by obtain ⟨i, _, hi, hki⟩ := hm k hk; exact f3 i k hi hki
  obtain ⟨z, hz, hzm⟩ := SepL.append hv h2 (fun k hk => h3 k (hv1 k hk))
  refine ⟨h.base, h.below, z, hz, fun k hk => hu k ((h4 k).2 ?_)⟩
  rcases (hzm k).1 hk with h0 | h0
  · exact .inl (hv1 k h0)
  · exact .inr h0

/-- It reads so as long as the frame stands. -/
def RdF (w0 : World) (B : Nat) (fs : List HP) (A : Option Addr) (xs : List Value) : Prop := ∀ w, Sep w0 B w fs → Rd w w.heap.size A xs
def RdRowsF (w0 : World) (B : Nat) (fs : List HP) (A : Option Addr) (hd : List Hd) (m : List (List Int)) : Prop := ∀ w, Sep w0 B w fs → RdRows w w.heap.size A hd m
theorem RdF.cut {c : Nat} {A : Option Addr} {α : Type} {f : α → Value} {xs : List α} {lo hi : Int} (h : RdF w0 B fs A (xs.map f)) (hb : 0 ≤ lo ∧ lo ≤ hi ∧ hi ≤ xs.length) (hc : xs.length ≤ c) : RdF w0 B fs (cutAddr A c lo) ((GL.cut xs lo hi).map f) := fun w hS => by
  rw [← cut_map]
  exact (h w hS).cut hb.1 hb.2.1 (by simpa using hb.2.2) (by simpa using hc)
theorem RdF.of {A : Option Addr} {xs : List Value} (h : Rd w0 w0.heap.size A xs) : RdF w0 w0.heap.size [] A xs := fun _ hS => h.sep hS
theorem RdRowsF.of {A : Option Addr} {hd : List Hd} {m : List (List Int)} (h : RdRows w0 w0.heap.size A hd m) : RdRowsF w0 w0.heap.size [] A hd m := fun _ hS => h.sep hS
end

/-! ### Slices of one-cell elements -/
def getd {α : Type} (z : α) (m : List α) (i : Int) : α := m.getD i.toNat z

section
variable {P : Program} {C : World → Prop} {hyps : List (Bool × Bool)} {w0 w : World} {B : Nat} {l r ps : List HP} {t e : TypeId} {inf : TypeInfo} {A : Option Addr} {n c : Nat} {α : Type} {f : α → Value} {m : List α} {i : Int}

theorem Sep.len1 (h : Sep w0 B w (l ++ own e (.slice A n c) (m.map f) :: r)) : n = m.length := by
  obtain ⟨g, hg, _⟩ := h.get
  simpa using own_len hg
theorem Sep.cap1 (h : Sep w0 B w (l ++ own e (.slice A n c) (m.map f) :: r)) : m.length ≤ c := by
  have := h.len1
  have := h.cap
  omega
theorem ob_ix1 {x : Bool} {k : IntKind} (ht : P.underlying t = some (.slice e)) (hi : P.info? e = some inf) (hs : inf.size = 1) (hr : Rd w B A (m.map f)) (hl : n = m.length) (h : (∀ y ∈ hyps, y.1 = y.2) → 0 ≤ i ∧ i < (n : Int)) :
    Ob.holds P C x ⟨true, hyps, vS (Instr.indexAt t (.slice A n c) (.int k i)), .pointer (some (sAddr A i))⟩ :=
  ob_index ht hi hs (fun h0 => hr.some (by simpa [← hl] using h0)) h

theorem rd_cell1 (z : α) (h : Rd w B A (m.map f)) (h0 : 0 ≤ i) (h1 : i < m.length) : w.cell? (sAddr A i) = some (f (getd z m i)) := by
  have hl : i.toNat < m.length := by omega
  obtain ⟨ad, rfl, _, hc⟩ := h i.toNat (f m[i.toNat]) (by simp [hl])
  simp only [sAddr, Option.getD_some, hc, getd]
  rw [List.getD_eq_getElem?_getD, List.getElem?_eq_getElem hl]
  rfl

theorem ob_get1 {x : Bool} (f : α → Value) (z : α) (hag : runPure P (isAgg t) = some false) (hr : ∀ w, C w → ∃ B, Rd w B A (m.map f)) (hl : ∀ w, C w → n = m.length) (h : (∀ y ∈ hyps, y.1 = y.2) → 0 ≤ i ∧ i < (n : Int)) :
    Ob.holds P C x ⟨false, hyps, vS (Instr.loadAt t (.pointer (some (sAddr A i)))), f (getd z m i)⟩ :=
  ob_load hag fun hy w hw => by
    obtain ⟨B, hr⟩ := hr w hw
    have := hl w hw
    exact rd_cell1 z hr (h hy).1 (by have := (h hy).2; omega)

theorem run_set1 {x : α} (f : α → Value) (hS : Sep w0 B w (l ++ own e (.slice A n c) (m.map f) :: r)) (hi : P.info? t = some inf) (hs : inf.size = 1) (hc : (f x).cells = #[f x]) (h1 : (f x).oneCell' = true) (hb : 0 ≤ i ∧ i < (n : Int)) :
    ∃ w', (uS (Instr.storeAt t (.pointer (some (sAddr A i))) (f x))).run P w = .ok .skip w' ∧ Sep w0 B w' (l ++ own e (.slice A n c) ((m.set i.toNat x).map f) :: r) := by
  have hl := hS.len1
  have := run_set (P := P) (t := t) (u := f x) hS hi hs hc h1 hb.1 (by simpa [← hl] using hb.2)
  simpa [List.map_set] using this

theorem run_mk1 (f : α → Value) (z : α) (hS : Sep w0 B w ps) (kl kc : IntKind) {n : Int} (ht : P.underlying t = some (.slice e)) (hi : P.info? e = some inf) (hz : inf.zero = some (f z)) (hs : inf.size = 1) (hby : inf.bytes ≤ 16) (hc : (f z).cells = #[f z]) (hb : 0 ≤ n ∧ n ≤ bigN) :
    ∃ A c w', (vS (Instr.makeSlice t (.int kl n) (.int kc n))).run P w = .ok (.value (.slice A n.toNat c)) w' ∧ Sep w0 B w' (own e (.slice A n.toNat c) ((List.replicate n.toNat z).map f) :: ps) := by
  obtain ⟨A, c, w', h1, h2⟩ := run_mk (P := P) hS (z := f z) kl kc ht hi hz hs hby hc hb.1 hb.2
  exact ⟨A, c, w', by simpa using h1, by simpa using h2⟩

theorem run_app1 (f : α → Value) (z : α) {ys : List α} {A2 : Option Addr} {m2 c2 : Nat} (hS : Sep w0 B w (l ++ own e (.slice A n c) (m.map f) :: r)) (hr : Rd w w.heap.size A2 (ys.map f)) (hm : m2 = ys.length) (ty : TypeId)
    (ht : P.underlying t = some (.slice e)) (hi : P.info? e = some inf) (hz : inf.zero = some (f z)) (hs : inf.size = 1) (hby : inf.bytes ≤ 8) (hc : (f z).cells = #[f z]) (h1 : ∀ a, (f a).oneCell' = true) (hl : (n : Int) + m2 ≤ bigN) :
    ∃ A' c' w', (vS (Builtin.append_ #[t, t] ty #[.slice A n c, .slice A2 m2 c2])).run P w = .ok (.value (.slice A' (m ++ ys).length c')) w' ∧ Sep w0 B w' (l ++ own e (.slice A' (m ++ ys).length c') ((m ++ ys).map f) :: r) := by
  have hn := hS.len1
  obtain ⟨A', c', w', h2, h3⟩ := run_app (P := P) (t := t) (z := f z) hS hr (by simpa using hm) ty ht hi hz hs hby hc (by
    intro u hu
    obtain ⟨a, _, rfl⟩ := List.mem_map.1 hu
    exact h1 a) (by simp only [List.length_map]; omega)
  exact ⟨A', c', w', by simpa using h2, by simpa using h3⟩

end

/-! ### Arrays in blocks -/
def arr1 {α : Type} (f : α → Value) (z : α) (n : Nat) (m : List α) : List Value := (List.range n).map fun i => f (m.getD i z)

section
variable {P : Program} {C : World → Prop} {hyps : List (Bool × Bool)} {w0 w : World} {B : Nat} {l r ps : List HP} {t e : TypeId} {inf : TypeInfo} {α : Type} {f : α → Value} {z : α} {n : Nat} {m : List α}

theorem arr1_length : (arr1 f z n m).length = n := by simp [arr1]
theorem arr1_get {i : Nat} (h : i < n) : (arr1 f z n m)[i]? = some (f (m.getD i z)) := by simp [arr1, h]
theorem arr1_set {i : Nat} {x : α} (h : i < n) (hm : i < m.length) : (arr1 f z n m).set i (f x) = arr1 f z n (m.set i x) := by
  apply List.ext_getElem?
  intro j
  rw [List.getElem?_set]
  by_cases hij : i = j
  · subst hij
    rw [if_pos rfl, arr1_length, if_pos h, arr1_get h, List.getD_eq_getElem?_getD, List.getElem?_set, if_pos rfl, if_pos hm]
    rfl
  · rw [if_neg hij]
    by_cases hj : j < n
    · rw [arr1_get hj, arr1_get hj, List.getD_eq_getElem?_getD, List.getD_eq_getElem?_getD, List.getElem?_set, if_neg hij]
    · have h1 : (arr1 f z n m)[j]? = none := by simp [arr1]; omega
      have h2 : (arr1 f z n (m.set i x))[j]? = none := by simp [arr1]; omega
      rw [h1, h2]

/-- The address of an array's element. -/
theorem ob_ixA {x : Bool} {a : Addr} {k : IntKind} {i : Int} {len es : Nat} (ht : P.underlying t = some (.array len e)) (hi : P.info? e = some inf) (hs : inf.size = es) (h : (∀ y ∈ hyps, y.1 = y.2) → 0 ≤ i ∧ i < (len : Int)) :
    Ob.holds P C x ⟨true, hyps, vS (Instr.indexAt t (.pointer (some a)) (.int k i)), .pointer (some (a.add (i.toNat * es)))⟩ :=
  Ob.any fun hy w => by
    obtain ⟨h0, h1⟩ := h hy
    simp [Instr.indexAt, Instr.sureAddr, run_underlying ht, asIntOf, h0, h1, sizeOf, typeInfo, hi, hs]
theorem blk_arr {g : Nat} {pre post : List Value} (hS : Sep w0 B w (l ++ blk g e (pre ++ (arr1 f z n m ++ post)).toArray :: r)) {d : Nat} (hd : d < n) : w.cell? ((⟨g, pre.length, none⟩ : Addr).add d) = some (f (m.getD d z)) := by
  obtain ⟨u, ⟨hf, _⟩, _⟩ := hS.get
  have had : (⟨g, pre.length, none⟩ : Addr).add d = ⟨g, pre.length + d, none⟩ := by unfold Addr.add; split <;> simp_all
  rw [had, cell_of_row w g _ _ e (0, 0) hf]
  rw [← arr1_get (f := f) (m := m) (z := z) hd]
  simp [List.getElem?_append, arr1_length, hd]

/-- A load out of an array in a block. -/
theorem ob_getA {x : Bool} (f : α → Value) (z : α) (n : Nat) {g o : Nat} (pre post : List Value) {d : Nat} (i : Int) (hag : runPure P (isAgg t) = some false) (ho : pre.length = o)
    (hS : ∀ w, C w → ∃ w0 B l e r, Sep w0 B w (l ++ blk g e (pre ++ (arr1 f z n m ++ post)).toArray :: r)) (h : (∀ y ∈ hyps, y.1 = y.2) → d = i.toNat ∧ d < n) :
    Ob.holds P C x ⟨false, hyps, vS (Instr.loadAt t (.pointer (some ((⟨g, o, none⟩ : Addr).add d)))), f (getd z m i)⟩ :=
  ob_load hag fun hy w hw => by
    obtain ⟨w0, B, l, e, r, hS⟩ := hS w hw
    obtain ⟨hd, hn⟩ := h hy
    subst ho
    rw [blk_arr hS hn, getd, hd]

theorem run_setA {g o : Nat} (f : α → Value) (z : α) (n : Nat) (pre post : List Value) {d : Nat} {i : Int} {x : α} (hS : Sep w0 B w (l ++ blk g e (pre ++ (arr1 f z n m ++ post)).toArray :: r)) (ho : pre.length = o) (hi : P.info? t = some inf) (hs : inf.size = 1) (h1 : (f x).oneCell' = true)
    (hd : d = i.toNat ∧ d < n) (hm : 0 ≤ i ∧ i < m.length) :
    ∃ w', (uS (Instr.storeAt t (.pointer (some ((⟨g, o, none⟩ : Addr).add d))) (f x))).run P w = .ok .skip w' ∧ Sep w0 B w' (l ++ blk g e (pre ++ (arr1 f z n (m.set i.toNat x) ++ post)).toArray :: r) := by
  subst ho
  obtain ⟨rfl, hd⟩ := hd
  have had : (⟨g, pre.length, none⟩ : Addr).add i.toNat = ⟨g, pre.length + i.toNat, none⟩ := by unfold Addr.add; split <;> simp_all
  rw [had]
  obtain ⟨w', h2, h3⟩ := run_put (P := P) (t := t) (u := f x) (i := pre.length + i.toNat) hS hi hs h1 (by simp [arr1_length]; omega)
  refine ⟨w', h2, ?_⟩
  have he : (pre ++ (arr1 f z n m ++ post)).toArray.setIfInBounds (pre.length + i.toNat) (f x) = (pre ++ (arr1 f z n (m.set i.toNat x) ++ post)).toArray := by
    rw [List.setIfInBounds_toArray, ← arr1_set hd (by omega)]
    congr 1
    rw [List.set_append_right (pre.length + i.toNat) (f x) (by omega), Nat.add_sub_cancel_left, List.set_append_left i.toNat (f x) (by rw [arr1_length]; exact hd)]
  rw [he] at h3
  exact h3
end


section
variable {P : Program} {C : World → Prop} {hyps : List (Bool × Bool)} {w0 w : World} {B : Nat} {l r ps qs : List HP} {t e ei : TypeId} {inf : TypeInfo} {A : Option Addr} {n c : Nat} {α : Type} {f : α → Value} {m : List α}

theorem Sep.reN {n' : Nat} (h : Sep w0 B w (l ++ own e (.slice A n c) (m.map f) :: r)) (he : n = n') : Sep w0 B w (l ++ own e (.slice A n' c) (m.map f) :: r) := he ▸ h
theorem rowb {i : Int} (hl : n = m.length) (h : 0 ≤ i ∧ i < (n : Int)) : 0 ≤ i ∧ i < (m.length : Int) := by omega
end

/-! ### Results of two kinds -/
def Fl.post {α β : Type} (r : Fl α β) (p : α → Prop) (q : β → Prop) : Prop := match r with | .go x => p x | .ret y => q y
section
variable {P : Program} {fn : Func} {R : Ending → World → Prop} {a : Act} {w : World} {n : Nat} {ρ : Env}
end

end Go.GL
