/-
  A small library of our own: slices whose elements have several cells; appending a row to rows; slices of arrays in blocks.
-/
import Derived.Test.YtdjjomghggplpaaLibU
namespace Go.GL
open Go Go.RowKit
variable {Ds : List Nat} {ro : Option Nat}

structure EncK {α : Type} (F : α → List Value) (k : Nat) : Prop where
  len : ∀ a, (F a).length = k
  one : ∀ a, ∀ u ∈ F a, u.oneCell' = true
  pos : 0 < k

section
variable {α : Type} {F : α → List Value} {k : Nat} {m : List α}

/-- Cells set one by one, from place s on. -/
def setCells (xs : List Value) : Nat → List Value → List Value
  | _, [] => xs
  | s, v :: vs => setCells (xs.set s v) (s + 1) vs

theorem setCells_get : ∀ (vs : List Value) (xs : List Value) (s j : Nat), s + vs.length ≤ xs.length → (setCells xs s vs)[j]? = if s ≤ j ∧ j < s + vs.length then vs[j - s]? else xs[j]?
  | [], xs, s, j, _ => by
    simp only [setCells, List.length_nil, Nat.add_zero]
    rw [if_neg (by omega)]
  | v :: vs, xs, s, j, h => by
    simp only [List.length_cons] at h
    simp only [setCells]
    rw [setCells_get vs _ (s + 1) j (by rw [List.length_set]; omega), List.getElem?_set]
    simp only [List.length_cons]
    by_cases h1 : j = s
    · subst h1
      rw [if_neg (by omega), if_pos (by omega), if_pos (by omega)]
      simp
    · by_cases h2 : s + 1 ≤ j ∧ j < s + 1 + vs.length
      · rw [if_pos h2, if_pos (by omega)]
        rw [show j - s = (j - (s + 1)) + 1 by omega, List.getElem?_cons_succ]
      · rw [if_neg h2, if_neg (by omega), if_neg (by omega)]

end

section
variable {P : Program} {C : World → Prop} {hyps : List (Bool × Bool)} {w0 w : World} {B : Nat} {l r ps fs : List HP} {t e : TypeId} {inf : TypeInfo} {A : Option Addr} {n c k : Nat} {α : Type} {F : α → List Value} {m : List α} {i : Int}

theorem own_formK {e : TypeId} {k : Nat} {v : Value} {n : Nat} {xs : List Value} {w : World} (h : w.ownsRow 0 e k v n xs) : ∃ A c, v = .slice A n c ∧ n ≤ c := by
  rcases h.2 with ⟨rfl, rfl⟩ | ⟨g, cap, cur, rfl, _, _, h1, _⟩
  · exact ⟨none, 0, rfl, Nat.le_refl _⟩
  · exact ⟨_, cap, rfl, h1⟩

theorem own_blockK {v : Value} {n : Nat} {xs : List Value} (h : w.ownsRow 0 e k v n xs) : ∀ j ∈ v.ownBlock.toList, j < w.heap.size := by
  intro j hj
  exact (h.lt j (by simpa using hj)).2

/-- Stores into a row, cell by cell. -/
theorem ownK_stores {g n c : Nat} : ∀ (us : List Value) (j0 s : Nat) (w : World) (xs : List Value), w.ownsRow 0 e k (.slice (some ⟨g, 0, none⟩) n c) n xs → (∀ u ∈ us, u.oneCell' = true) → s + j0 + us.length ≤ n * k →
    ∃ w', (storeCells ⟨g, s, none⟩ us j0).run P w = .ok () w' ∧ w'.ownsRow 0 e k (.slice (some ⟨g, 0, none⟩) n c) n (setCells xs (s + j0) us) ∧ w.grownBy w' (some g)
  | [], j0, s, w, xs, h, _, _ => ⟨w, rfl, h, ⟨rfl, rfl, rfl, Nat.le_refl _, fun _ _ _ => rfl⟩⟩
  | u :: us, j0, s, w, xs, h, h1, hl => by
    have hj : s + j0 < n * k := by simp at hl; omega
    have hadd : (⟨g, s, none⟩ : Addr).add j0 = ⟨g, s + j0, none⟩ := by unfold Addr.add; split <;> simp_all
    have hcell := h.cellAt (s + j0) hj
    have hxl : s + j0 < xs.length := by rw [h.1]; exact hj
    rw [List.getElem?_eq_getElem hxl] at hcell
    have hfr := h.frozenAt (s + j0)
    obtain ⟨hst, hgr⟩ := h.stored (s + j0) u
    obtain ⟨w', h2, h3, h4⟩ := ownK_stores us (j0 + 1) s _ _ hst (fun v hv => h1 v (by simp [hv])) (by simp at hl; omega)
    refine ⟨w', ?_, by simpa [setCells, Nat.add_assoc] using h3, ?_⟩
    · simp only [storeCells, Sem.run_bind, hadd]
      have : (store ⟨g, s + j0, none⟩ u).run P w = .ok () (w.setCell ⟨g, s + j0, none⟩ u) := by
        have h9 := h1 u (by simp)
        cases u <;> first
          | (simp [Value.oneCell'] at h9; done)
          | simp [store, Sem.run, hcell, hfr]
      rw [this]
      exact h2
    · exact ⟨h4.os.trans hgr.os, h4.tape.trans hgr.tape, h4.output.trans hgr.output, Nat.le_trans hgr.size h4.size, fun i hi hn => (h4.block i (Nat.lt_of_lt_of_le hi hgr.size) hn).trans (hgr.block i hi hn)⟩

end

/-! ### Regions that draw their order, several operations that do something free at a time -/
section
variable {P : Program} {ops : Array Oper} {Q : Exit → Act → World → Prop} {S : World → Prop}

def headsB5 (ops : Array Oper) (ts : List Nat) : List Nat → Array Bool → Array Bool → Bool
  | [], listed, l1 => decide (listed = l1)
  | k :: r, listed, l1 => (Region.ready .any ops listed).contains k && Region.free .any ops listed k &&
      (match ops[k]? with | some o => wfree o || ts.all (fun j => reaches ops ops.size j k) | none => false) && headsB5 ops ts r (listed.setIfInBounds k true) l1

def effT (es : List Nat) (j : Nat) : Bool := es.contains j

theorem anyG_heads5 {ts : List Nat} {l1 : Array Bool} {m : Nat} (hsel : Region.noSelect ops = true) (hQ : ∀ c a w, ¬ Q (.panic c) a w) :
    ∀ (hs : List Nat) (lh : List Oper) (listed : Array Bool) (a : Act) (w : World), hs.map (ops[·]?) = lh.map some → Closed ops listed → headsB5 ops ts hs listed l1 = true → S w →
    wpQ P ops S true (fun a' => wpAnyG P ops Q S (effT ts) m l1 a' w) lh a →
    wpAnyG P ops Q S (effT ts) (hs.length + m) listed a w
  | [], [], listed, a, w, _, _, hB, _, h => by
    rw [List.length_nil, Nat.zero_add]
    simp only [headsB5, decide_eq_true_eq] at hB
    rw [hB]
    exact h
  | [], _ :: _, _, _, _, hm, _, _, _, _ => by simp at hm
  | _ :: _, [], _, _, _, hm, _, _, _, _ => by simp at hm
  | k :: hs, o :: lh, listed, a, w, hm, hcl, hB, hS, h => by
    simp only [List.map_cons, List.cons.injEq] at hm
    simp only [headsB5, Bool.and_eq_true, hm.1] at hB
    obtain ⟨⟨⟨hr, hf⟩, hwf⟩, hB'⟩ := hB
    have hr' : k ∈ Region.ready .any ops listed := by simpa using hr
    have ih := fun a' (h' : wpQ P ops S true (fun a' => wpAnyG P ops Q S (effT ts) m l1 a' w) lh a') => anyG_heads5 hsel hQ hs lh (listed.setIfInBounds k true) a' w hm.2 (hcl.set hr') hB' hS h'
    have hQ' : ∀ v, ∀ c a w, Q (.panic c) (a.put o.dst v) w → Q (.panic c) a w := fun v c a w hx => absurd hx (hQ _ _ _)
    rw [show (k :: hs).length + m = (hs.length + m) + 1 by simp only [List.length_cons]; omega]
    unfold wpQ at h
    by_cases hw : Region.wanted o (yielded ops a.tmps) = true
    · rw [if_pos hw] at h
      obtain ⟨v, hq, hrest⟩ := h
      cases hfr : wfree o with
      | true =>
        have hy : YieldsIf P ops (fun _ => True) o v a := .inl ⟨hw, fun w _ => by unfold Oper.q at hq; rw [hfr] at hq; exact hq w⟩
        exact wpAnyG_free hm.1 (Region.noSelect_spec hsel) (hQ' v) _ listed a w (Region.free_spec hm.1 hf) hr' hy (ih _ hrest)
      | false =>
        have hy : YieldsIf P ops S o v a := .inl ⟨hw, fun w hw' => by unfold Oper.q at hq; rw [hfr] at hq; exact hq w hw'⟩
        rw [hfr] at hwf
        simp only [Bool.false_or, List.all_eq_true] at hwf
        exact wpAnyG_first hm.1 (Region.noSelect_spec hsel) (hQ' v) ops.size _ listed a w hcl (fun j hj _ => hwf j (by simpa [effT] using hj)) (Region.free_spec hm.1 hf) hr' hy hS (ih _ hrest)
    · rw [if_neg hw] at h
      have hy : YieldsIf P ops (fun _ => True) o undef a := .inr ⟨by simpa using hw, rfl⟩
      exact wpAnyG_free hm.1 (Region.noSelect_spec hsel) (hQ' undef) _ listed a w (Region.free_spec hm.1 hf) hr' hy (ih _ h)

def keepK (K : Act → World → Prop) (Q : Exit → Act → World → Prop) : Exit → Act → World → Prop
  | .normal, a, w => K a w
  | e, a, w => Q e a w

theorem wpOp_of_list {i : Nat} {o : Oper} {K : Act → World → Prop} {a : Act} {w : World} (hi : ops[i]? = some o) (h : listR P ops (keepK K Q) [o] a w) : opR P ops Q i K a w := by
  unfold opR
  simp only [hi]
  unfold listR at h
  have key : ∀ a' w', listR P ops (keepK K Q) [] a' w' → K a' w' := fun a' w' h' => h'
  split
  · rename_i hw
    rw [if_pos hw] at h
    exact oR_mono (fun a' w' h' => key _ _ h') h
  · rename_i hw
    rw [if_neg hw] at h
    exact key _ _ h

theorem any_end {fuel : Nat} {eff : Nat → Bool} {listed : Array Bool} {a : Act} {w : World} (hr : Region.ready .any ops listed = []) (h : Q .normal a w) : wpAnyG P ops Q S eff fuel listed a w := by
  cases fuel with
  | zero => exact ⟨hr, h⟩
  | succ f => exact ⟨fun _ => h, fun i hi => by rw [hr] at hi; cases hi⟩
end

section
variable {P : Program} {Q : Exit → Act → World → Prop} {S : World → Prop} {l : List Oper} {a : Act} {w : World} {ts : List Nat}

def TK (P : Program) (l : List Oper) (Q : Exit → Act → World → Prop) (S : World → Prop) (es : List Nat) (f : Nat) (listed : Array Bool) (i : Nat) (w : World) (a' : Act) (w' : World) : Prop :=
  (effT es i = false → S w → S w') ∧ wpAnyG P l.toArray (noPanic Q) S (effT es) f listed a' w'

/-- One of the operations that may come next: each way. -/
theorem any_step {es : List Nat} {f : Nat} {listed : Array Bool} (ks : List Nat) (hr : Region.ready .any l.toArray listed = ks) (hne : ks.isEmpty = false)
    (hK : ∀ i ∈ ks, opR P l.toArray (noPanic Q) i (TK P l Q S es f (listed.setIfInBounds i true) i w) a w) :
    wpAnyG P l.toArray (noPanic Q) S (effT es) (f + 1) listed a w :=
  ⟨fun h0 => (by rw [hr] at h0; rw [h0] at hne; cases hne), fun i hi => (by rw [hr] at hi; exact hK i hi)⟩

theorem any_op {es : List Nat} {f i : Nat} {listed listed' : Array Bool} (hl : listed = listed') (h1 : [l[i]?] = (sel? l [i]).map some)
    (h : wpAt P l.toArray (sel? l [i]) (keepK (TK P l Q S es f listed' i w) (noPanic Q)) 0 a w) :
    opR P l.toArray (noPanic Q) i (TK P l Q S es f listed i w) a w := by
  subst hl
  obtain ⟨o1, ho1⟩ : ∃ o1, l[i]? = some o1 := by
    cases hl : l[i]? with
    | none => rw [hl] at h1; simp [sel?, hl] at h1
    | some o1 => exact ⟨o1, rfl⟩
  have hsel1 : sel? l [i] = [o1] := by simp [sel?, ho1]
  rw [hsel1] at h
  exact wpOp_of_list (o := o1) (by simpa using ho1) (by simpa [wpAt] using h)

/-- Behind it: the world is still of S, or the operation is one of 'es'. -/
theorem any_fin {es : List Nat} {f i : Nat} {listed : Array Bool} {w1 : World} {lt : List Oper} {k : Nat} (hk : lt.drop k = []) (h1 : S w) (h2 : wpAnyG P l.toArray (noPanic Q) S (effT es) f listed a w) : wpAt P l.toArray lt (keepK (TK P l Q S es f listed i w1) (noPanic Q)) k a w :=
  at_fin hk ⟨fun _ _ => h1, h2⟩
theorem any_finE {es : List Nat} {f i : Nat} {listed : Array Bool} {w1 : World} {lt : List Oper} {k : Nat} (hk : lt.drop k = []) (h1 : effT es i = true) (h2 : wpAnyG P l.toArray (noPanic Q) S (effT es) f listed a w) : wpAt P l.toArray lt (keepK (TK P l Q S es f listed i w1) (noPanic Q)) k a w :=
  at_fin hk ⟨fun h => (by rw [h1] at h; cases h), h2⟩

theorem all_cons {p : Nat → Prop} {k : Nat} {ks : List Nat} (h : p k) (hs : ∀ i ∈ ks, p i) : ∀ i ∈ k :: ks, p i := fun i hi => by
  rcases List.mem_cons.1 hi with rfl | hi
  · exact h
  · exact hs i hi
theorem all_nil {p : Nat → Prop} : ∀ i ∈ ([] : List Nat), p i := fun i hi => by cases hi

theorem regMix5 {w0 : World} {B n : Nat} {ρ : Env} {ps : List HP} {id : Nat} (hs ts : List Nat) (m : Nat) (l1 : Array Bool) (obs : List Ob) (orc : List (Option Value)) (sl : List Nat) (τ : Env) (hF : FrD Ds n ρ a) (hS : Sep w0 B w ps)
    (hfol : P.follows .mixedOrders = true) (hB : (Region.noSelect l.toArray && decide (hs.length + m = l.toArray.size) && headsB5 l.toArray ts hs (Array.replicate l.toArray.size false) l1) = true) (hh : hs.map (l[·]?) = (sel? l hs).map some) (hdst : dstOk n (sel? l hs) = true)
    (hev : (evR P l.toArray (sel? l hs) orc ρ).map (fun x => (x.1.sel sl, x.2)) = some (τ, obs)) (hob : ∀ b ∈ obs, b.holds P (fun w' => Sep w0 B w' ps) true)
    (hK : ∀ a' w', FrD Ds n τ a' → Sep w0 B w' ps → wpAnyG P l.toArray (noPanic Q) (fun w' => Sep w0 B w' ps) (effT ts) m l1 a' w') : (Code.region id l.toArray true).wpIn (RF ro) 9 P Q a w := by
  cases hx : evR P l.toArray (sel? l hs) orc ρ with
  | none => rw [hx] at hev; simp at hev
  | some x =>
    rw [hx] at hev
    simp at hev
    obtain ⟨ρ1, obs1⟩ := x
    simp only at hev
    obtain ⟨e1, rfl⟩ := hev
    simp only [Bool.and_eq_true, decide_eq_true_eq] at hB
    obtain ⟨⟨hsel, hlen⟩, hheads⟩ := hB
    refine Go.Code.wpIn_mono (Q := noPanic Q) (fun e a w h => by cases e <;> first | exact h | exact h.elim) ?_
    refine regionR_any hfol (wpAny_of_G (S := fun w' => Sep w0 B w' ps) (eff := effT ts) _ _ _ _ ?_)
    have hcl : Closed l.toArray (Array.replicate l.toArray.size false) := by
      intro j o _ hl
      rcases Nat.lt_or_ge j l.length with h | h <;> simp [h] at hl
    rw [← hlen] at hcl hheads ⊢
    refine anyG_heads5 hsel (fun c a w h => h) hs (sel? l hs) _ a _ (by simpa using hh) hcl hheads hS.drew ?_
    exact evR_q (P := P) (ops := l.toArray) (C := fun w' => Sep w0 B w' ps) (x := true) (sel? l hs) orc ρ ρ1 _ a hx hdst hob hF fun a' hF' => hK a' _ (hF'.weak sl e1) hS.drew
end

section
variable {w0 w : World} {B : Nat} {l r ps : List HP} {e : TypeId} {A : Option Addr} {n c k : Nat} {α : Type} {F : α → List Value} {m : List α}
end
end Go.GL
