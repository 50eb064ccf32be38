/-
  A small library of our own: slices of structs that hold a slice each; these inner slices are frozen in the pool.
-/
import Derived.Test.YtdjjomghggplpaaLibPl
import Derived.Test.YtdjjomghggplpaaLibMV
import Derived.Test.YtdjjomghggplpaaLibAQ
namespace Go.GL
open Go Go.RowKit Go.ChangeShapes Go.WideShapes Go.ChangeAt

/-- A slice's header as it lies. -/
abbrev Hd3 := Option Addr × Nat × Nat
/-- A header and the frozen row that it means. -/
def SlR (p : HP) (h : Hd3) (x : List Int) : Prop := h.2.1 = x.length ∧ x.length ≤ h.2.2 ∧ PoolW p h.1 x
theorem SlR.mono {p q : HP} {h : Hd3} {x : List Int} (k : PoolLe p q) (r : SlR p h x) : SlR q h x := ⟨r.1, r.2.1, r.2.2.mono k⟩
theorem SlR.zero (p : HP) : SlR p (none, 0, 0) [] := ⟨rfl, Nat.le_refl _, PoolW.nil p⟩
theorem SlR.of {p : HP} {A : Option Addr} {c : Nat} {x : List Int} (h : PoolW p A x) (hc : x.length ≤ c) : SlR p (A, x.length, c) x := ⟨rfl, hc, h⟩

structure RelP {ρ α : Type} (R : HP → ρ → α → Prop) (rz : ρ) (z : α) : Prop where
  mono : ∀ {p q : HP} {g : ρ} {x : α}, PoolLe p q → R p g x → R q g x
  zero : ∀ p : HP, R p rz z

section
variable {ρ α : Type} {R : HP → ρ → α → Prop} {rz : ρ} {z : α} {p q : HP}

def PAll (R : HP → ρ → α → Prop) (p : HP) : List ρ → List α → Prop
  | [], [] => True
  | g :: r, x :: m => R p g x ∧ PAll R p r m
  | _, _ => False
theorem PAll.mono (hR : RelP R rz z) (k : PoolLe p q) : ∀ {r : List ρ} {m : List α}, PAll R p r m → PAll R q r m
  | [], [], _ => trivial
  | _ :: _, _ :: _, h => ⟨hR.mono k h.1, PAll.mono hR k h.2⟩
  | [], _ :: _, h => h.elim
  | _ :: _, [], h => h.elim
theorem PAll.nil : PAll R p [] [] := trivial
theorem PAll.app : ∀ {r : List ρ} {m : List α} {r2 : List ρ} {m2 : List α}, PAll R p r m → PAll R p r2 m2 → PAll R p (r ++ r2) (m ++ m2)
  | [], [], _, _, _, k => k
  | _ :: _, _ :: _, _, _, h, k => ⟨h.1, PAll.app h.2 k⟩
  | [], _ :: _, _, _, h, _ => h.elim
  | _ :: _, [], _, _, h, _ => h.elim
theorem PAll.one {g : ρ} {x : α} (h : R p g x) : PAll R p [g] [x] := ⟨h, trivial⟩
theorem PAll.cons {g : ρ} {x : α} {r : List ρ} {m : List α} (h : R p g x) (k : PAll R p r m) : PAll R p (g :: r) (x :: m) := ⟨h, k⟩
theorem PAll.len : ∀ {r : List ρ} {m : List α}, PAll R p r m → r.length = m.length
  | [], [], _ => rfl
  | _ :: _, _ :: _, h => by rw [List.length_cons, List.length_cons, PAll.len h.2]
  | [], _ :: _, h => h.elim
  | _ :: _, [], h => h.elim
theorem PAll.nat (hR : RelP R rz z) : ∀ {r : List ρ} {m : List α} (_ : PAll R p r m) (i : Nat), R p (r.getD i rz) (m.getD i z)
  | [], [], _, i => by simpa using hR.zero p
  | _ :: _, _ :: _, h, 0 => h.1
  | _ :: _, _ :: _, h, i + 1 => by simpa using PAll.nat hR h.2 i
  | [], _ :: _, h, _ => h.elim
  | _ :: _, [], h, _ => h.elim
theorem PAll.any (hR : RelP R rz z) {r : List ρ} {m : List α} (h : PAll R p r m) (i : Int) : R p (getd rz r i) (getd z m i) := h.nat hR i.toNat
theorem PAll.drop : ∀ {r : List ρ} {m : List α} (k : Nat), PAll R p r m → PAll R p (r.drop k) (m.drop k)
  | _, _, 0, h => h
  | [], [], _ + 1, _ => trivial
  | _ :: _, _ :: _, k + 1, h => PAll.drop k h.2
  | [], _ :: _, _ + 1, h => h.elim
  | _ :: _, [], _ + 1, h => h.elim
theorem PAll.take : ∀ {r : List ρ} {m : List α} (k : Nat), PAll R p r m → PAll R p (r.take k) (m.take k)
  | [], [], 0, _ => trivial
  | _ :: _, _ :: _, 0, _ => trivial
  | [], [], _ + 1, _ => trivial
  | _ :: _, _ :: _, k + 1, h => ⟨h.1, PAll.take k h.2⟩
  | [], _ :: _, _, h => h.elim
  | _ :: _, [], _, h => h.elim
theorem PAll.cut {r : List ρ} {m : List α} {lo hi : Int} (h : PAll R p r m) : PAll R p (GL.cut r lo hi) (GL.cut m lo hi) := (h.drop _).take _
theorem PAll.set {g : ρ} {x : α} (hx : R p g x) : ∀ {r : List ρ} {m : List α} (k : Nat), PAll R p r m → PAll R p (r.set k g) (m.set k x)
  | [], [], _, _ => trivial
  | _ :: _, _ :: _, 0, h => ⟨hx, h.2⟩
  | _ :: _, _ :: _, k + 1, h => ⟨h.1, PAll.set hx k h.2⟩
  | [], _ :: _, _, h => h.elim
  | _ :: _, [], _, h => h.elim
end

/-- Where the pool is, the cells may be read. -/
def PoolX (g : HP) (A : Option Addr) (xs : List Value) : Prop := ∀ w f, g.at_ w f → Rd w w.heap.size A xs
/-- Where the pool is, the elements may be read, and so what they hold. -/
def PoolE {ρ α : Type} (F : ρ → List Value) (R : HP → ρ → α → Prop) (g : HP) (A : Option Addr) (raw : List ρ) (m : List α) : Prop := PoolX g A (raw.flatMap F) ∧ PAll R g raw m
/-- A row of elements of the call's own; what they hold lies in the pool g. -/
def els {ρ α : Type} (F : ρ → List Value) (R : HP → ρ → α → Prop) (g : HP) (e : TypeId) (k : Nat) (A : Option Addr) (n c : Nat) (raw : List ρ) (m : List α) : HP where
  at_ w f := (ownK e k A n c (raw.flatMap F)).at_ w f ∧ PAll R g raw m
  loc := fun hk h => ⟨(ownK e k A n c (raw.flatMap F)).loc hk h.1, h.2⟩

section
variable {ρ α : Type} {F : ρ → List Value} {R : HP → ρ → α → Prop} {rz : ρ} {z : α} {w0 w : World} {B : Nat} {l r ps : List HP} {g g' a b : HP} {A : Option Addr} {raw raw2 : List ρ} {m m2 : List α} {xs : List Value} {n c k : Nat} {e : TypeId}

theorem PoolX.mono (h : PoolLe g g') (k : PoolX g A xs) : PoolX g' A xs := fun w f hf => by
  obtain ⟨f', h'⟩ := h w f hf
  exact k w f' h'
theorem PoolE.mono (hR : RelP R rz z) (h : PoolLe g g') (k : PoolE F R g A raw m) : PoolE F R g' A raw m := ⟨k.1.mono h, k.2.mono hR h⟩
theorem PoolX.at_ (h : PoolX g A xs) (hS : Sep w0 B w ps) (i : Nat) (hi : ps[i]? = some g) : Rd w w.heap.size A xs := by
  obtain ⟨f, hf, _⟩ := (hS.at_ i hi).get
  exact h w f hf
theorem PoolE.at_ (h : PoolE F R g A raw m) (hS : Sep w0 B w ps) (i : Nat) (hi : ps[i]? = some g) : Rd w w.heap.size A (raw.flatMap F) := h.1.at_ hS i hi
theorem PoolE.nil (g : HP) : PoolE F R g none [] [] := ⟨fun _ _ _ => Rd.nil _ _ _, trivial⟩
theorem PoolE.own (hR : RelP R rz z) (h : PAll R g raw m) : PoolE F R (twoB (GL.els F R g e k A n c raw m) g) A raw m :=
  ⟨fun w f hf => by
    obtain ⟨f', hf'⟩ := PoolLe.left w f hf
    exact ownK_rd hf'.1, h.mono hR PoolLe.right⟩
theorem PoolE.cut (hF : EncK F k) {lo hi : Int} (h : PoolE F R g A raw m) (hb : 0 ≤ lo ∧ lo ≤ hi ∧ hi ≤ (m.length : Int)) (hc : m.length ≤ c) : PoolE F R g (cutAddrK A k c lo) (GL.cut raw lo hi) (GL.cut m lo hi) :=
  ⟨fun w f hf => Rd.cutK hF (h.1 w f hf) (by rw [h.2.len]; exact hb) (by rw [h.2.len]; exact hc), h.2.cut⟩

theorem Sep.elsAll (h : Sep w0 B w (l ++ els F R g e k A n c raw m :: r)) : PAll R g raw m := by
  obtain ⟨f, hf, _⟩ := h.get
  exact hf.2
theorem Sep.elsOwn (h : Sep w0 B w (l ++ els F R g e k A n c raw m :: r)) : Sep w0 B w (l ++ ownK e k A n c (raw.flatMap F) :: r) :=
  h.upd fun f hf hfb => ⟨f, hf.1, (Ex.refl w).mono (by simp), fun k hk => .inl hk, fun k hk => (hfb k hk).2⟩
theorem Sep.ownEls (h : Sep w0 B w (l ++ ownK e k A n c (raw.flatMap F) :: r)) (hm : PAll R g raw m) : Sep w0 B w (l ++ els F R g e k A n c raw m :: r) :=
  h.upd fun f hf hfb => ⟨f, ⟨hf, hm⟩, (Ex.refl w).mono (by simp), fun k hk => .inl hk, fun k hk => (hfb k hk).2⟩
theorem Sep.rdE (h : Sep w0 B w (l ++ els F R g e k A n c raw m :: r)) : Rd w w.heap.size A (raw.flatMap F) := h.elsOwn.rdK
theorem Sep.lenE (hF : EncK F k) (h : Sep w0 B w (l ++ els F R g e k A n c raw m :: r)) : n = m.length := by rw [← h.elsAll.len]; exact h.elsOwn.lenK hF
theorem Sep.lenEr (hF : EncK F k) (h : Sep w0 B w (l ++ els F R g e k A n c raw m :: r)) : n = raw.length := h.elsOwn.lenK hF
theorem Sep.nilE (h : Sep w0 B w ps) (F : ρ → List Value) (R : HP → ρ → α → Prop) (g : HP) (e : TypeId) (k : Nat) : Sep w0 B w (els F R g e k none 0 0 [] [] :: ps) :=
  Sep.ownEls (l := []) (h.nilK e k F) trivial
end

section
variable {P : Program} {C : World → Prop} {hyps : List (Bool × Bool)} {w0 w : World} {B : Nat} {l r ps fs : List HP} {t e : TypeId} {inf : TypeInfo} {A : Option Addr} {n c k : Nat} {ρ α : Type} {F : ρ → List Value} {R : HP → ρ → α → Prop} {rz : ρ} {z : α} {raw : List ρ} {m : List α} {i : Int} {g : HP}

/-- A field of an element loaded. -/
theorem ob_getPF {x : Bool} (hF : EncK F k) (rz : ρ) {vs : List Value} {j : Nat} {v : Value} (hag : runPure P (isAgg t) = some false) (hr : ∀ w, C w → ∃ B, Rd w B A (raw.flatMap F)) (hl : ∀ w, C w → n = raw.length) (h : (∀ y ∈ hyps, y.1 = y.2) → 0 ≤ i ∧ i < (n : Int)) (hj : j < k)
    (hv : F (getd rz raw i) = vs) (hu : vs[j]? = some v) : Ob.holds P C x ⟨false, hyps, vS (Instr.loadAt t (.pointer (some ((sAddrK A k i).add j)))), v⟩ := by
  subst hv
  exact ob_getF hF rz hag hr hl h hj hu

/-- append of elements. -/
theorem run_appE {ys : List ρ} {my : List α} {A2 : Option Addr} {m2 c2 : Nat} {zv : Value} (hF : EncK F k) (hS : Sep w0 B w (l ++ els F R g e k A n c raw m :: r)) (hr : Rd w w.heap.size A2 (ys.flatMap F)) (hy : PAll R g ys my) (hm : m2 = ys.length) (ty : TypeId)
    (ht : P.underlying t = some (.slice e)) (hi : P.info? e = some inf) (hz : inf.zero = some zv) (hs : inf.size = k) (hzs : zv.cells.size = k) (hby : inf.bytes ≤ 128) (hl : (n : Int) + m2 ≤ bigK) :
    ∃ A' c' w', (vS (Builtin.append_ #[t, t] ty #[.slice A n c, .slice A2 m2 c2])).run P w = .ok (.value (.slice A' (m ++ my).length c')) w' ∧ Sep w0 B w' (l ++ els F R g e k A' (m ++ my).length c' (raw ++ ys) (m ++ my) :: r) := by
  have ha := hS.elsAll
  obtain ⟨A', c', w', h1, h2⟩ := run_appK hF hS.elsOwn hr hm ty ht hi hz hs hzs hby hl
  have hlen : (raw ++ ys).length = (m ++ my).length := (ha.app hy).len
  rw [hlen] at h1 h2
  exact ⟨A', c', w', h1, h2.ownEls (ha.app hy)⟩
end
end Go.GL
