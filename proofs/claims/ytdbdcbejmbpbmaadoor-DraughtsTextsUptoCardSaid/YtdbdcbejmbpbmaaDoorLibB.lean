/-
  A small library of our own: the heap's own objects as a list (Sep), loops by a step function, rules for code by frames.
-/
import Derived.Test.YtdbdcbejmbpbmaaDoorLibA
import Derived.Maps.AppendAt
import Derived.Deep.AppendLies
import Derived.Conc.EntryLaws
import Derived.Conc.MuLone
namespace Go.GL
open Go Go.RowKit
variable {Ds : List Nat} {ro : Option Nat}

/-! ### Objects of the call's own -/

structure HP where
  at_ : World → List Nat → Prop
  loc : ∀ {w w' : World} {f : List Nat}, (∀ k ∈ f, w'.heap[k]? = w.heap[k]?) → at_ w f → at_ w' f

inductive SepL (w : World) : List HP → List Nat → Prop
  | nil : SepL w [] []
  | cons {p : HP} {ps : List HP} {f u : List Nat} : p.at_ w f → SepL w ps u → (∀ k ∈ f, k ∉ u) → SepL w (p :: ps) (f ++ u)

structure Sep (w0 : World) (B : Nat) (w : World) (ps : List HP) : Prop where
  base : B ≤ w0.heap.size
  below : Below B w0 w
  ex : ∃ u, SepL w ps u ∧ ∀ k ∈ u, B ≤ k ∧ k < w.heap.size

/-- Only blocks in 'f' may have turned; there may be new ones. -/
structure Ex (f : List Nat) (w w' : World) : Prop where
  os : w'.os = w.os
  tape : w'.tape = w.tape
  output : w'.output = w.output
  size : w.heap.size ≤ w'.heap.size
  block : ∀ k, k < w.heap.size → k ∉ f → w'.heap[k]? = w.heap[k]?

theorem Ex.refl (w : World) : Ex [] w w := ⟨rfl, rfl, rfl, Nat.le_refl _, fun _ _ _ => rfl⟩
theorem Ex.trans {f g : List Nat} {a b c : World} (h : Ex f a b) (k : Ex g b c) : Ex (f ++ g) a c :=
  ⟨k.os.trans h.os, k.tape.trans h.tape, k.output.trans h.output, Nat.le_trans h.size k.size, fun i hi hn => by
    simp only [List.mem_append, not_or] at hn
    exact (k.block i (Nat.lt_of_lt_of_le hi h.size) hn.2).trans (h.block i hi hn.1)⟩
theorem Ex.of_grown {w w' : World} {row : Option Nat} (h : w.grownBy w' row) : Ex row.toList w w' :=
  ⟨h.os, h.tape, h.output, h.size, fun k hk hn => h.block k hk (fun e => hn (by rw [← e]; simp))⟩
theorem Ex.below {w w' : World} (h : Ex [] w w') : Below w.heap.size w w' := ⟨h.os, h.tape, h.output, h.size, fun k hk => h.block k hk (by simp)⟩
theorem Ex.mono {f g : List Nat} {w w' : World} (h : Ex f w w') (hs : ∀ k ∈ f, k ∈ g) : Ex g w w' := ⟨h.os, h.tape, h.output, h.size, fun k hk hn => h.block k hk (fun hf => hn (hs k hf))⟩

theorem SepL.loc {w w' : World} {ps : List HP} {u : List Nat} (h : SepL w ps u) (hk : ∀ k ∈ u, w'.heap[k]? = w.heap[k]?) : SepL w' ps u := by
  induction h with
  | nil => exact .nil
  | cons hp _ hd ih => exact .cons (HP.loc _ (fun k hf => hk k (List.mem_append_left _ hf)) hp) (ih fun k hu => hk k (List.mem_append_right _ hu)) hd

theorem SepL.take {w : World} {p : HP} {r : List HP} : ∀ {l : List HP} {u : List Nat}, SepL w (l ++ p :: r) u →
    ∃ f u', p.at_ w f ∧ SepL w (l ++ r) u' ∧ (∀ k ∈ f, k ∉ u') ∧ (∀ k, k ∈ u ↔ k ∈ f ∨ k ∈ u')
  | [], _, h => by
    cases h with
    | cons hp hs hd => exact ⟨_, _, hp, hs, hd, fun k => List.mem_append⟩
  | q :: l, _, h => by
    cases h with
    | cons hq hs hd =>
      rename_i f0 u0
      obtain ⟨f, u', hp, hs', hd', hu⟩ := SepL.take (l := l) hs
      refine ⟨f, f0 ++ u', hp, .cons hq hs' (fun k hk hk' => hd k hk ((hu k).2 (.inr hk'))), fun k hk hk' => ?_, fun k => ?_⟩
      · rcases List.mem_append.1 hk' with h0 | h0
        · exact hd k h0 ((hu k).2 (.inl hk))
        · exact hd' k hk h0
      · simp only [List.mem_append, hu]
        exact ⟨fun h => h.elim (fun h => .inr (.inl h)) (fun h => h.elim .inl (fun h => .inr (.inr h))), fun h => h.elim (fun h => .inr (.inl h)) (fun h => h.elim .inl (fun h => .inr (.inr h)))⟩

theorem SepL.ins {w : World} {p : HP} {r : List HP} {f : List Nat} (hp : p.at_ w f) : ∀ {l : List HP} {u' : List Nat}, SepL w (l ++ r) u' → (∀ k ∈ f, k ∉ u') →
    ∃ u, SepL w (l ++ p :: r) u ∧ (∀ k, k ∈ u ↔ k ∈ f ∨ k ∈ u')
  | [], _, h, hd => ⟨_, .cons hp h hd, fun k => List.mem_append⟩
  | q :: l, _, h, hd => by
    cases h with
    | cons hq hs hdq =>
      rename_i f0 u0
      obtain ⟨u, hs', hu⟩ := SepL.ins hp (l := l) hs (fun k hk hk' => hd k hk (List.mem_append_right _ hk'))
      refine ⟨f0 ++ u, .cons hq hs' (fun k hk hk' => ?_), fun k => ?_⟩
      · rcases (hu k).1 hk' with h0 | h0
        · exact hd k h0 (List.mem_append_left _ hk)
        · exact hdq k hk h0
      · simp only [List.mem_append, hu]
        exact ⟨fun h => h.elim (fun h => .inr (.inl h)) (fun h => h.elim .inl (fun h => .inr (.inr h))), fun h => h.elim (fun h => .inr (.inl h)) (fun h => h.elim .inl (fun h => .inr (.inr h)))⟩

section
variable {w0 w w' : World} {B : Nat} {p p' : HP} {l r ps qs : List HP}

theorem Sep.start (w : World) : Sep w w.heap.size w [] := ⟨Nat.le_refl _, Below.refl _ _, [], .nil, by simp⟩

theorem Sep.le (h : Sep w0 B w ps) : B ≤ w.heap.size := Nat.le_trans h.base h.below.size

theorem Sep.get (h : Sep w0 B w (l ++ p :: r)) : ∃ f, p.at_ w f ∧ ∀ k ∈ f, B ≤ k ∧ k < w.heap.size := by
  obtain ⟨u, hs, hu⟩ := h.ex
  obtain ⟨f, u', hp, _, _, hm⟩ := hs.take
  exact ⟨f, hp, fun k hk => hu k ((hm k).2 (.inl hk))⟩

theorem Sep.del (h : Sep w0 B w (l ++ p :: r)) : Sep w0 B w (l ++ r) := by
  obtain ⟨u, hs, hu⟩ := h.ex
  obtain ⟨f, u', _, hs', _, hm⟩ := hs.take
  exact ⟨h.base, h.below, u', hs', fun k hk => hu k ((hm k).2 (.inr hk))⟩

theorem Sep.move {l' r' : List HP} (h : Sep w0 B w (l ++ p :: r)) (he : l ++ r = l' ++ r') : Sep w0 B w (l' ++ p :: r') := by
  obtain ⟨u, hs, hu⟩ := h.ex
  obtain ⟨f, u', hp, hs', hd, hm⟩ := hs.take
  rw [he] at hs'
  obtain ⟨u2, hs2, hm2⟩ := SepL.ins hp hs' hd
  exact ⟨h.base, h.below, u2, hs2, fun k hk => hu k ((hm k).2 ((hm2 k).1 hk))⟩

theorem Sep.upd (h : Sep w0 B w (l ++ p :: r)) (hs : ∀ f, p.at_ w f → (∀ k ∈ f, B ≤ k ∧ k < w.heap.size) → ∃ f', p'.at_ w' f' ∧ Ex f w w' ∧ (∀ k ∈ f', k ∈ f ∨ w.heap.size ≤ k) ∧ ∀ k ∈ f', k < w'.heap.size) :
    Sep w0 B w' (l ++ p' :: r) := by
  obtain ⟨u, hsl, hu⟩ := h.ex
  obtain ⟨f, u', hp, hs', hd, hm⟩ := hsl.take
  obtain ⟨f', hp', hx, hsub, hlt⟩ := hs f hp (fun k hk => hu k ((hm k).2 (.inl hk)))
  have hu' : ∀ k ∈ u', B ≤ k ∧ k < w.heap.size := fun k hk => hu k ((hm k).2 (.inr hk))
  have hkeep : ∀ k ∈ u', w'.heap[k]? = w.heap[k]? := fun k hk => hx.block k (hu' k hk).2 (fun hf => hd k hf hk)
  have hd' : ∀ k ∈ f', k ∉ u' := fun k hk hk' => by
    rcases hsub k hk with h0 | h0
    · exact hd k h0 hk'
    · have := (hu' k hk').2; omega
  obtain ⟨u2, hs2, hm2⟩ := SepL.ins hp' (hs'.loc hkeep) hd'
  have hle := h.le
  refine ⟨h.base, ⟨hx.os.trans h.below.os, hx.tape.trans h.below.tape, hx.output.trans h.below.output, Nat.le_trans h.below.size hx.size, fun k hk => ?_⟩, u2, hs2, fun k hk => ?_⟩
  · refine (hx.block k (by omega) (fun hf => ?_)).trans (h.below.block k hk)
    have := (hu k ((hm k).2 (.inl hf))).1
    omega
  · rcases (hm2 k).1 hk with h0 | h0
    · refine ⟨?_, hlt k h0⟩
      rcases hsub k h0 with h1 | h1
      · exact (hu k ((hm k).2 (.inl h1))).1
      · omega
    · exact ⟨(hu' k h0).1, Nat.lt_of_lt_of_le (hu' k h0).2 hx.size⟩

theorem Sep.ex0 (h : Sep w0 B w ps) (hx : Ex [] w w') : Sep w0 B w' ps := by
  obtain ⟨u, hs, hu⟩ := h.ex
  have hle := h.le
  exact ⟨h.base, ⟨hx.os.trans h.below.os, hx.tape.trans h.below.tape, hx.output.trans h.below.output, Nat.le_trans h.below.size hx.size, fun k hk => (hx.block k (by omega) (by simp)).trans (h.below.block k hk)⟩,
    u, hs.loc (fun k hk => hx.block k (hu k hk).2 (by simp)), fun k hk => ⟨(hu k hk).1, Nat.lt_of_lt_of_le (hu k hk).2 hx.size⟩⟩

theorem Sep.drew (h : Sep w0 B w ps) : Sep w0 B { w with drawn := w.drawn + 1 } ps := h.ex0 ⟨rfl, rfl, rfl, Nat.le_refl _, fun _ _ _ => rfl⟩

theorem SepL.append {u v : List Nat} (h1 : SepL w ps u) (h2 : SepL w qs v) (hd : ∀ k ∈ u, k ∉ v) : ∃ z, SepL w (ps ++ qs) z ∧ ∀ k, k ∈ z ↔ k ∈ u ∨ k ∈ v := by
  induction h1 with
  | nil => exact ⟨v, h2, by simp⟩
  | cons hp hs hdp ih =>
    rename_i p ps f u
    obtain ⟨z, hz, hm⟩ := ih (fun k hk => hd k (List.mem_append_right _ hk))
    refine ⟨f ++ z, .cons hp hz (fun k hk hk' => ?_), fun k => ?_⟩
    · rcases (hm k).1 hk' with h0 | h0
      · exact hdp k hk h0
      · exact hd k (List.mem_append_left _ hk) h0
    · simp only [List.mem_append, hm, or_assoc]

/-- What a callee made joins what was there. -/
theorem Sep.merge (h : Sep w0 B w ps) (h' : Sep w w.heap.size w' qs) : Sep w0 B w' (qs ++ ps) := by
  have hx : Ex [] w w' := ⟨h'.below.os, h'.below.tape, h'.below.output, h'.below.size, fun k hk _ => h'.below.block k hk⟩
  have h1 := h.ex0 hx
  obtain ⟨u, hs, hu⟩ := h.ex
  obtain ⟨v, hv, hvu⟩ := h'.ex
  have hle := h.le
  obtain ⟨z, hz, hm⟩ := SepL.append hv (hs.loc (w' := w') (fun k hk => hx.block k (hu k hk).2 (by simp))) (fun k hk hk' => by
    have a1 := (hvu k hk).1
    have a2 := (hu k hk').2
    omega)
  refine ⟨h1.base, h1.below, z, hz, fun k hk => ?_⟩
  rcases (hm k).1 hk with h0 | h0
  · exact ⟨Nat.le_trans hle (hvu k h0).1, (hvu k h0).2⟩
  · exact ⟨(hu k h0).1, Nat.lt_of_lt_of_le (hu k h0).2 hx.size⟩

theorem Sep.add {f : List Nat} (h : Sep w0 B w ps) (hx : Ex [] w w') (hp : p.at_ w' f) (hf : ∀ k ∈ f, w.heap.size ≤ k ∧ k < w'.heap.size) : Sep w0 B w' (p :: ps) := by
  refine h.merge (qs := [p]) ⟨Nat.le_refl _, ⟨hx.os, hx.tape, hx.output, hx.size, fun k hk => hx.block k hk (by simp)⟩, f, ?_, hf⟩
  have := SepL.cons hp SepL.nil (by simp)
  simpa using this
end

/-! ### Slices -/

/-- A slice of the call's own, elements of one cell. -/
def own (e : TypeId) (v : Value) (xs : List Value) : HP where
  at_ w f := w.ownsRow 0 e 1 v xs.length xs ∧ f = v.ownBlock.toList
  loc := by
    rintro w w' f hk ⟨h, rfl⟩
    refine ⟨⟨h.1, ?_⟩, rfl⟩
    rcases h.2 with h0 | ⟨g, cap, cur, rfl, h1, h2, h3⟩
    · exact .inl h0
    · exact .inr ⟨g, cap, cur, rfl, h1, (hk g (by simp [Value.ownBlock])).trans h2, h3⟩

/-- A block that is known whole. -/
def blk (g : Nat) (t : TypeId) (cs : Array Value) : HP where
  at_ w f := w.heap[g]? = some (.cells cs t (0, 0)) ∧ f = [g]
  loc := by
    rintro w w' f hk ⟨h, rfl⟩
    exact ⟨(hk g (by simp)).trans h, rfl⟩

abbrev vI (xs : List Int) : List Value := xs.map (Value.int .i64)

/-- It reads as 'xs', below block 'B'. -/
def Rd (w : World) (B : Nat) (A : Option Addr) (xs : List Value) : Prop := ∀ i u, xs[i]? = some u → ∃ ad, A = some ad ∧ ad.block < B ∧ w.cell? (ad.add i) = some u

theorem block_add (a : Addr) (n : Nat) : (a.add n).block = a.block := by unfold Addr.add; split <;> rfl
theorem add_add (a : Addr) (i j : Nat) : (a.add i).add j = a.add (i + j) := by
  unfold Addr.add
  by_cases hi : i = 0 <;> by_cases hj : j = 0 <;> simp [hi, hj, Nat.add_assoc]

theorem Rd.below {w w' : World} {B : Nat} {A : Option Addr} {xs : List Value} (h : Rd w B A xs) (hb : Below B w w') : Rd w' B A xs := fun i u hu => by
  obtain ⟨ad, e, hl, hc⟩ := h i u hu
  exact ⟨ad, e, hl, (hb.cell (p := ad.add i) (by rw [block_add]; exact hl)).trans hc⟩
theorem Rd.mono {w : World} {B B' : Nat} {A : Option Addr} {xs : List Value} (h : Rd w B A xs) (hb : B ≤ B') : Rd w B' A xs := fun i u hu => by
  obtain ⟨ad, e, hl, hc⟩ := h i u hu
  exact ⟨ad, e, by omega, hc⟩
theorem Rd.sep {w0 w : World} {B : Nat} {A : Option Addr} {xs : List Value} {ps : List HP} (h : Rd w0 B A xs) (hs : Sep w0 B w ps) : Rd w w.heap.size A xs := (h.below hs.below).mono hs.le
theorem Rd.nil (w : World) (B : Nat) (A : Option Addr) : Rd w B A [] := fun i u hu => by simp at hu

theorem own_rd {w : World} {e : TypeId} {A : Option Addr} {n c : Nat} {xs : List Value} {f : List Nat} (h : (own e (.slice A n c) xs).at_ w f) : Rd w w.heap.size A xs := by
  obtain ⟨h, _⟩ := h
  intro i u hu
  rcases h.2 with ⟨_, h0⟩ | ⟨g, cap, cur, hv, _, hg, _⟩
  · have : xs = [] := List.eq_nil_of_length_eq_zero h0
    subst this; simp at hu
  · injection hv with hA
    subst hA
    have hlt : g < w.heap.size := by
      rcases Nat.lt_or_ge g w.heap.size with h1 | h1
      · exact h1
      · rw [Array.getElem?_eq_none h1] at hg; cases hg
    exact ⟨_, rfl, hlt, h.cells (g := g) (by simp [Value.ownBlock]) i u hu⟩

theorem own_len {w : World} {e : TypeId} {A : Option Addr} {n c : Nat} {xs : List Value} {f : List Nat} (h : (own e (.slice A n c) xs).at_ w f) : n = xs.length := by
  obtain ⟨h, _⟩ := h
  rcases h.2 with ⟨hv, h0⟩ | ⟨g, cap, cur, hv, _, hg, _⟩
  · injection hv with _ h1; omega
  · injection hv

theorem own_max {w : World} {e : TypeId} {v : Value} {xs : List Value} {f : List Nat} (h : (own e v xs).at_ w f) : xs.length ≤ maxLen := by
  obtain ⟨h, _⟩ := h
  rcases h.2 with ⟨hv, h0⟩ | ⟨g, cap, cur, hv, _, hg, h1, h2, _⟩
  · omega
  · omega

theorem Sep.rd {w0 w : World} {B : Nat} {l r : List HP} {e : TypeId} {A : Option Addr} {n c : Nat} {xs : List Value} (h : Sep w0 B w (l ++ own e (.slice A n c) xs :: r)) : Rd w w.heap.size A xs := by
  obtain ⟨f, hf, _⟩ := h.get
  exact own_rd hf
theorem Sep.max {w0 w : World} {B : Nat} {l r : List HP} {e : TypeId} {v : Value} {xs : List Value} (h : Sep w0 B w (l ++ own e v xs :: r)) : xs.length ≤ maxLen := by
  obtain ⟨f, hf, _⟩ := h.get
  exact own_max hf

/-! ### The models' small words -/

def w64 (x : Int) : Int := IntKind.wrap .i64 x
def sub {α : Type} (xs : List α) (lo hi : Int) : Option (List α) := if 0 ≤ lo ∧ lo ≤ hi ∧ hi ≤ xs.length then some ((xs.drop lo.toNat).take (hi - lo).toNat) else none
def bigN : Int := 17592186044416
def mk {α : Type} (z : α) (n : Int) : Option (List α) := if 0 ≤ n ∧ n ≤ bigN then some (List.replicate n.toNat z) else none
theorem obind {α β : Type} {o : Option α} {k : α → Option β} {r : β} (h : o.bind k = some r) : ∃ x, o = some x ∧ k x = some r := by
  cases o with
  | none => simp at h
  | some x => exact ⟨x, rfl, h⟩

/-! ### Loops -/

inductive St (S R : Type) where
  | next (s : S)
  | done (r : R)

def loopN {S R : Type} (step : S → Option (St S R)) : Nat → S → Option R
  | 0, _ => none
  | n + 1, s => match step s with
    | some (.next s') => loopN step n s'
    | some (.done r) => some r
    | none => none

open Classical in
noncomputable def loop {S R : Type} (step : S → Option (St S R)) (s : S) : Option R :=
  if h : ∃ r, ∃ n, loopN step n s = some r then some (Classical.choose h) else none

theorem loopN_mono {S R : Type} {step : S → Option (St S R)} : ∀ {n m : Nat} {s : S} {r : R}, loopN step n s = some r → n ≤ m → loopN step m s = some r
  | 0, _, _, _, h, _ => by simp [loopN] at h
  | n + 1, 0, _, _, _, hm => by omega
  | n + 1, m + 1, s, r, h, hm => by
    unfold loopN at h ⊢
    split at h
    · rename_i s' hs
      exact loopN_mono h (by omega)
    · simpa using h
    · simp at h

theorem loop_of {S R : Type} {step : S → Option (St S R)} {n : Nat} {s : S} {r : R} (h : loopN step n s = some r) : loop step s = some r := by
  have hx : ∃ r, ∃ n, loopN step n s = some r := ⟨r, n, h⟩
  unfold loop
  rw [dif_pos hx]
  obtain ⟨m, hm⟩ := Classical.choose_spec hx
  have h1 := loopN_mono h (Nat.le_max_left n m)
  have h2 := loopN_mono hm (Nat.le_max_right n m)
  rw [h1] at h2
  exact h2.symm

theorem loop_to {S R : Type} {step : S → Option (St S R)} {s : S} {r : R} (h : loop step s = some r) : ∃ n, loopN step n s = some r := by
  unfold loop at h
  split at h
  · rename_i hx
    simp at h
    rw [← h]
    exact Classical.choose_spec hx
  · simp at h

def stK {S R T : Type} (step : S → Option (St S R)) (n : Nat) (K : R → Option T) : St S R → Option T
  | .next s' => (loopN step n s').bind K
  | .done r => K r

theorem exists_least {p : Nat → Prop} (h : ∃ n, p n) : ∃ n, p n ∧ ∀ m, p m → n ≤ m := by
  obtain ⟨n, hn⟩ := h
  induction n using Nat.strongRecOn with
  | _ n ih =>
    by_cases hx : ∃ m, m < n ∧ p m
    · obtain ⟨m, hm, hp⟩ := hx
      exact ih m hm hp
    · refine ⟨n, hn, fun m hm => ?_⟩
      rcases Nat.lt_or_ge m n with hlt | hge
      · exact absurd ⟨m, hlt, hm⟩ hx
      · exact hge

open Classical in
noncomputable def least (p : Nat → Prop) : Nat := if h : ∃ n, p n then Classical.choose (exists_least h) else 0

theorem least_spec {p : Nat → Prop} (h : ∃ n, p n) : p (least p) ∧ ∀ m, p m → least p ≤ m := by
  unfold least
  rw [dif_pos h]
  exact Classical.choose_spec (exists_least h)

theorem wp_loop_model {S R T : Type} {P : Program} {c : Code} {Q : Exit → Act → World → Prop} {a : Act} {w : World} (step : S → Option (St S R)) (K : R → Option T) (r : T) (Rel : S → Act → World → Prop) {s0 : S}
    (hm : (loop step s0).bind K = some r) (h0 : Rel s0 a w)
    (round : ∀ n s a w, Rel s a w → (step s).bind (stK step n K) = some r → c.wpIn (RF ro) 9 P (Exit.then (fun a' w' => ∃ s', Rel s' a' w' ∧ (loopN step n s').bind K = some r) Q) a w) : (Code.loop c).wpIn (RF ro) 9 P Q a w := by
  obtain ⟨x, hx, hk⟩ := obind hm
  obtain ⟨n, hn⟩ := loop_to hx
  have hN : ∃ n, ∃ s, Rel s a w ∧ (loopN step n s).bind K = some r := ⟨n, s0, h0, by rw [hn]; exact hk⟩
  clear hm hx hk hn h0
  let good : Act → World → Nat → Prop := fun a w n => ∃ s, Rel s a w ∧ (loopN step n s).bind K = some r
  refine wpIn_loop (fun a w => ∃ n, good a w n) (fun a w => least (good a w)) hN ?_
  intro a w hI
  obtain ⟨⟨s, hr, hs⟩, _⟩ := least_spec hI
  show c.wpIn (RF ro) 9 P (Exit.then (fun a' w' => (∃ n, good a' w' n) ∧ least (good a' w') < least (good a w)) Q) a w
  generalize least (good a w) = m at hs
  cases m with
  | zero => simp [loopN] at hs
  | succ m =>
    have hs' : (step s).bind (stK step m K) = some r := by
      rw [← hs]
      simp only [loopN]
      cases hst : step s with
      | none => simp
      | some o => cases o <;> simp [stK]
    refine Go.Code.wpIn_mono ?_ (round m s a w hr hs')
    intro e a' w' hq
    cases e with
    | normal =>
      have hI' : ∃ n, good a' w' n := ⟨m, hq⟩
      exact ⟨hI', Nat.lt_succ_of_le ((least_spec hI').2 m hq)⟩
    | _ => exact hq

/-! ### Rules for code -/

section
variable {P : Program} {Q : Exit → Act → World → Prop} {a : Act} {w : World} {n : Nat} {ρ ρ' : Env}

theorem seq_cut {x y : Code} (R : Act → World → Prop) (hy : ∀ a w, R a w → y.wpIn (RF ro) 9 P Q a w) (hx : x.wpIn (RF ro) 9 P (Exit.then R Q) a w) : (Code.seq x y).wpIn (RF ro) 9 P Q a w := by
  refine wpIn_seq (Go.Code.wpIn_mono ?_ hx)
  intro e a w h
  cases e with
  | normal => exact hy a w h
  | _ => exact h

theorem cond_ev {t : Nat} {x y : Code} {b : Bool} (hF : FrD Ds n ρ a) (he : ρ.find t = some (pl t (.bool b))) (hT : b = true → x.wpIn (RF ro) 9 P Q a w) (hE : b = false → y.wpIn (RF ro) 9 P Q a w) : (Code.cond (.tmp t) x y).wpIn (RF ro) 9 P Q a w :=
  wpIn_cond_split (t := b) (hF.getD he) hT hE

/-- A quiet region ahead of the rest. -/
theorem seq_region {id : Nat} {l : List Oper} {draw : Bool} {y : Code} {C : World → Prop} {obs : List Ob} (orc : List (Option Value)) (ts : List Nat) (τ : Env) (hF : FrD Ds n ρ a) (hC : C w) (hdraw : ∀ w, C w → C { w with drawn := w.drawn + 1 })
    (hfol : P.follows .mixedOrders = true) (hlex : (!draw || Region.lexB .any l.toArray) = true) (hdst : dstOk n l = true)
    (hev : (evR P l.toArray l orc ρ).map (fun x => (x.1.sel ts, x.2)) = some (τ, obs)) (hob : ∀ b ∈ obs, b.holds P C false)
    (hK : ∀ a' w', FrD Ds n τ a' → C w' → y.wpIn (RF ro) 9 P Q a' w') : (Code.seq (Code.region id l.toArray draw) y).wpIn (RF ro) 9 P Q a w := by
  refine wpIn_seq ?_
  cases hx : evR P l.toArray l orc ρ with
  | none => rw [hx] at hev; simp at hev
  | some x =>
    rw [hx] at hev
    simp at hev
    obtain ⟨ρ1, obs1⟩ := x
    simp only at hev
    obtain ⟨h1, h2⟩ := hev
    exact region_ev (ρ' := ρ1) orc hfol hlex hdst hF hC hdraw hx (h2 ▸ hob) fun a' w' hF' hC' => hK a' w' (hF'.weak ts h1) hC'

theorem one_region {id : Nat} {l : List Oper} {draw : Bool} {C : World → Prop} {obs : List Ob} (orc : List (Option Value)) (ts : List Nat) (τ : Env) (hF : FrD Ds n ρ a) (hC : C w) (hdraw : ∀ w, C w → C { w with drawn := w.drawn + 1 })
    (hfol : P.follows .mixedOrders = true) (hlex : (!draw || Region.lexB .any l.toArray) = true) (hdst : dstOk n l = true)
    (hev : (evR P l.toArray l orc ρ).map (fun x => (x.1.sel ts, x.2)) = some (τ, obs)) (hob : ∀ b ∈ obs, b.holds P C false)
    (hK : ∀ a' w', FrD Ds n τ a' → C w' → Q .normal a' w') : (Code.region id l.toArray draw).wpIn (RF ro) 9 P Q a w := by
  cases hx : evR P l.toArray l orc ρ with
  | none => rw [hx] at hev; simp at hev
  | some x =>
    rw [hx] at hev
    simp at hev
    obtain ⟨ρ1, obs1⟩ := x
    simp only at hev
    obtain ⟨h1, h2⟩ := hev
    exact region_ev (ρ' := ρ1) orc hfol hlex hdst hF hC hdraw hx (h2 ▸ hob) fun a' w' hF' hC' => hK a' w' (hF'.weak ts h1) hC'

/-- A run of quiet operations in a plain region's list. -/
theorem list_run {ops : Array Oper} {rest : List Oper} {C : World → Prop} {obs : List Ob} (l : List Oper) (orc : List (Option Value)) (ρ' : Env) (hF : FrD Ds n ρ a) (hC : C w) (hdst : dstOk n l = true)
    (hev : evR P ops l orc ρ = some (ρ', obs)) (hob : ∀ b ∈ obs, b.holds P C false)
    (hK : ∀ a' w', FrD Ds n ρ' a' → C w' → listR P ops Q rest a' w') : listR P ops Q (l ++ rest) a w :=
  list_ev l orc hdst hF hC hev hob hK

/-- One operation that does something to the world: its value and the world behind it. -/
theorem list_do {ops : Array Oper} {rest : List Oper} {o : Oper} {v : Value} {w' : World} {d : Nat} (hg : o.guard = none) (hd : o.dst = some d) (hF : FrD Ds n ρ a)
    (hok : okOps ρ [] o = true) (hcl : ρ.clear d = true) (hdn : d < n)
    (hrun : (execOp (ρ.σ []) o).run P w = .ok (.value v) w') (hK : ∀ a', FrD Ds n (ρ.put (some d) [] v) a' → listR P ops Q rest a' w') : listR P ops Q (o :: rest) a w := by
  refine listR_plain hg fun K hk => ?_
  unfold oR
  rw [execOp_env hF (fun g hg => by cases hg) hok, hrun]
  rw [upR_value]
  refine hk _ _ (hK _ ?_)
  rw [hd]
  exact hF.put hdn hcl (fun g hg => by cases hg) (fun _ => rfl) (fun h => absurd (fun g hg => by cases hg) h)

/-- A call by its contract. -/
theorem list_call {ops : Array Oper} {rest : List Oper} {o : Oper} {f : FuncId} {args : Array Value} {d : Nat} {R : Value → World → Prop} (hg : o.guard = none) (hd : o.dst = some d) (hF : FrD Ds n ρ a)
    (hok : okOps ρ [] o = true) (hcl : ρ.clear d = true) (hdn : d < n)
    (hrun : (execOp (ρ.σ []) o).run P w = .ok (.enter f args) w) (hc : Calls P f args w fun e w' => ∃ v, e = .returned v ∧ R v w')
    (hK : ∀ v a' w', R v w' → FrD Ds n (ρ.put (some d) [] v) a' → listR P ops Q rest a' w') : listR P ops Q (o :: rest) a w := by
  refine listR_plain hg fun K hk => ?_
  unfold oR
  rw [execOp_env hF (fun g hg => by cases hg) hok, hrun]
  rw [upR_enter]
  refine hc.mono ?_
  rintro e w' ⟨v, rfl, hR⟩
  show K _ _
  refine hk _ _ (hK v _ _ hR ?_)
  rw [hd]
  exact hF.put hdn hcl (fun g hg => by cases hg) (fun _ => rfl) (fun h => absurd (fun g hg => by cases hg) h)

/-- One slot's value spelled otherwise. -/
theorem FrD.cast {t : Nat} {v v' : Value} (hF : FrD Ds n ρ a) (he : ρ.find t = some (pl t v)) (hcl : ρ.clear t = true) (hv : v = v') : FrD Ds n (ρ.put (some t) [] v') a := by
  subst hv
  have h0 := hF.ent t _ he
  have h1 := hF.put (d := t) (gs := []) (v := v) (v' := v) (by have := h0.1; rw [hF.size] at this; exact this) hcl (by simp) (fun _ => rfl) (fun h => absurd (fun g hg => by cases hg) h)
  have : a.put (some t) v = a := by
    cases a with
    | mk tmps defers =>
      simp only [Act.put, Act.mk.injEq, and_true]
      apply Array.ext_getElem?
      intro i
      rw [Array.getElem?_setIfInBounds]
      split
      · rename_i hi
        subst hi
        have := hF.get he
        simp only at this
        split
        · exact this.symm
        · rename_i hs
          rw [Array.getElem?_eq_none (by omega)] at this
          cases this
      · rfl
  rw [this] at h1
  exact h1
end

/-! ### Entering and leaving -/

def envOf : Nat → List Value → Env
  | _, [] => []
  | i, v :: r => pl i v :: envOf (i + 1) r

theorem find_envOf {t : Nat} {e : Ent} : ∀ {l : List Value} {i : Nat}, (envOf i l).find t = some e → ∃ j, t = i + j ∧ ∃ v, l[j]? = some v ∧ e = pl t v
  | [], _, h => by simp [envOf, Env.find] at h
  | v :: r, i, h => by
    unfold envOf Env.find at h
    split at h
    · rename_i hb
      have := Nat.eq_of_beq_eq_true hb
      simp only at this
      simp at h
      exact ⟨0, by omega, v, by simp, by rw [← h, this]⟩
    · obtain ⟨j, h1, u, h2, h3⟩ := find_envOf h
      exact ⟨j + 1, by omega, u, by simpa using h2, h3⟩

theorem FrD.init (l : List Value) (n : Nat) (hn : l.length ≤ n) : FrD [] n (envOf 0 l) { tmps := l.toArray ++ Array.replicate (n - l.toArray.size) undef, defers := [] } := by
  refine ⟨by simp; omega, rfl, fun t e he => ?_⟩
  obtain ⟨j, h1, v, h2, rfl⟩ := find_envOf he
  have hj : j < l.length := (List.getElem?_eq_some_iff.1 h2).1
  have ht : t = j := by omega
  subst ht
  refine ⟨by simp; omega, fun _ => ?_, fun h => absurd (fun g hg => by cases hg) h⟩
  simp only [Array.getElem?_append]
  rw [if_pos (by simpa using hj)]
  simpa using h2

theorem enter {P : Program} {f : FuncId} {fn : Func} {c : Code} {l : List Value} {w : World} {R : Ending → World → Prop} {n : Nat}
    (hf : P.funcs[f]? = some fn) (hb : fn.body = some c) (hn : fn.ntmps = n) (hl : l.length ≤ n)
    (h : ∀ a, FrD [] n (envOf 0 l) a → c.wpIn (RF none) 9 P (bodyR P fn R) a w) : Calls P f l.toArray w R := by
  refine callsR_of_wp hf hb ?_
  subst hn
  exact h _ (FrD.init l _ hl)

section
variable {P : Program} {fn : Func} {R : Ending → World → Prop} {a : Act} {w : World} {n : Nat} {ρ : Env}
end

end Go.GL
