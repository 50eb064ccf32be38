/-
  A small library of our own: slices whose elements have several cells; appending a row to rows; slices of arrays in blocks.
-/
import Derived.Test.YtdjjomghggplpaaLibU
namespace Go.GL
open Go Go.RowKit
variable {Ds : List Nat} {ro : Option Nat}

def bigK : Int := 1099511627776

structure EncK {α : Type} (F : α → List Value) (k : Nat) : Prop where
  len : ∀ a, (F a).length = k
  one : ∀ a, ∀ u ∈ F a, u.oneCell' = true
  pos : 0 < k

/-- A slice of the call's own, elements of k cells. -/
def ownK (e : TypeId) (k : Nat) (A : Option Addr) (n c : Nat) (xs : List Value) : HP where
  at_ w f := w.ownsRow 0 e k (.slice A n c) n xs ∧ f = (Value.slice A n c).ownBlock.toList
  loc := by
    rintro w w' f hk ⟨h, rfl⟩
    refine ⟨⟨h.1, ?_⟩, rfl⟩
    rcases h.2 with h0 | ⟨g, cap, cur, hv, h1, h2, h3⟩
    · exact .inl h0
    · rw [hv] at hk ⊢
      exact .inr ⟨g, cap, cur, rfl, h1, (hk g (by simp [Value.ownBlock])).trans h2, h3⟩

def sAddrK (A : Option Addr) (k : Nat) (i : Int) : Addr := (A.getD default).add (i.toNat * k)

section
variable {α : Type} {F : α → List Value} {k : Nat} {m : List α}

theorem flatMap_len (hF : EncK F k) : ∀ m : List α, (m.flatMap F).length = m.length * k
  | [] => by simp
  | a :: m => by rw [List.flatMap_cons, List.length_append, flatMap_len hF m, hF.len, List.length_cons, Nat.add_mul, Nat.one_mul, Nat.add_comm]

theorem flatMap_get (hF : EncK F k) (z : α) : ∀ (m : List α) (i j : Nat), i < m.length → j < k → (m.flatMap F)[i * k + j]? = (F (m.getD i z))[j]?
  | [], _, _, hi, _ => by simp at hi
  | a :: m, 0, j, _, hj => by
    rw [List.flatMap_cons, Nat.zero_mul, Nat.zero_add, List.getElem?_append_left (by rw [hF.len]; exact hj)]
    rfl
  | a :: m, i + 1, j, hi, hj => by
    rw [List.flatMap_cons, List.getElem?_append_right (by rw [hF.len]; calc k ≤ (i + 1) * k := Nat.le_mul_of_pos_left _ (by omega)
        _ ≤ _ := Nat.le_add_right _ _), hF.len]
    have h1 : (i + 1) * k + j - k = i * k + j := by rw [Nat.add_mul, Nat.one_mul]; omega
    rw [h1, flatMap_get hF z m i j (by simpa using hi) hj]
    simp [List.getD_eq_getElem?_getD]

theorem flatMap_one (hF : EncK F k) : ∀ u ∈ m.flatMap F, u.oneCell' = true := by
  intro u hu
  obtain ⟨a, _, ha⟩ := List.mem_flatMap.1 hu
  exact hF.one a u ha

end

section
variable {P : Program} {C : World → Prop} {hyps : List (Bool × Bool)} {w0 w : World} {B : Nat} {l r ps fs : List HP} {t e : TypeId} {inf : TypeInfo} {A : Option Addr} {n c k : Nat} {α : Type} {F : α → List Value} {m : List α} {i : Int}

theorem own_formK {e : TypeId} {k : Nat} {v : Value} {n : Nat} {xs : List Value} {w : World} (h : w.ownsRow 0 e k v n xs) : ∃ A c, v = .slice A n c ∧ n ≤ c := by
  rcases h.2 with ⟨rfl, rfl⟩ | ⟨g, cap, cur, rfl, _, _, h1, _⟩
  · exact ⟨none, 0, rfl, Nat.le_refl _⟩
  · exact ⟨_, cap, rfl, h1⟩

theorem ownK_rd {xs : List Value} {f : List Nat} (h : (ownK e k A n c xs).at_ w f) : Rd w w.heap.size A xs := by
  obtain ⟨h, _⟩ := h
  intro i u hu
  rcases h.2 with ⟨hv, h0⟩ | ⟨g, cap, cur, hv, _, hg, _⟩
  · have h1 := h.1
    rw [h0] at h1
    have : xs = [] := List.eq_nil_of_length_eq_zero (by simpa using h1)
    subst this; simp at hu
  · injection hv with hA
    subst hA
    have hlt : g < w.heap.size := by
      rcases Nat.lt_or_ge g w.heap.size with h1 | h1
      · exact h1
      · rw [Array.getElem?_eq_none h1] at hg; cases hg
    exact ⟨_, rfl, hlt, h.cells (g := g) (by simp [Value.ownBlock]) i u hu⟩

theorem Sep.rdK {xs : List Value} (h : Sep w0 B w (l ++ ownK e k A n c xs :: r)) : Rd w w.heap.size A xs := by
  obtain ⟨f, hf, _⟩ := h.get
  exact ownK_rd hf
theorem Sep.lenK (hF : EncK F k) (h : Sep w0 B w (l ++ ownK e k A n c (m.flatMap F) :: r)) : n = m.length := by
  obtain ⟨f, ⟨hf, _⟩, _⟩ := h.get
  have h1 := hf.1
  rw [flatMap_len hF] at h1
  exact (Nat.eq_of_mul_eq_mul_right hF.pos h1).symm
theorem Sep.nilK (h : Sep w0 B w ps) (e : TypeId) (k : Nat) (F : α → List Value) : Sep w0 B w (ownK e k none 0 0 (([] : List α).flatMap F) :: ps) :=
  h.add (Ex.refl w) (f := []) ⟨World.ownsRow_nil w 0 e k, by simp [Value.ownBlock]⟩ (by simp)

theorem Rd.someK (hF : EncK F k) (h : Rd w B A (m.flatMap F)) (hl : 0 < m.length) : A.isSome = true :=
  h.some (by rw [flatMap_len hF]; exact Nat.mul_pos hl hF.pos)

theorem ob_ixK {x : Bool} {kd : IntKind} (hF : EncK F k) (ht : P.underlying t = some (.slice e)) (hi : P.info? e = some inf) (hs : inf.size = k) (hr : Rd w B A (m.flatMap F)) (hl : n = m.length) (h : (∀ y ∈ hyps, y.1 = y.2) → 0 ≤ i ∧ i < (n : Int)) :
    Ob.holds P C x ⟨true, hyps, vS (Instr.indexAt t (.slice A n c) (.int kd i)), .pointer (some (sAddrK A k i))⟩ :=
  Ob.any fun hy w => by
    obtain ⟨h0, h1⟩ := h hy
    have hA := hr.someK hF (by omega)
    cases A with
    | none => simp at hA
    | some a => simp [Instr.indexAt, run_underlying ht, asIntOf, h0, h1, sizeOf, typeInfo, hi, hs, sAddrK]

theorem cellK (hF : EncK F k) (z : α) (h : Rd w B A (m.flatMap F)) (h0 : 0 ≤ i) (h1 : i < m.length) {j : Nat} (hj : j < k) : w.cell? ((sAddrK A k i).add j) = (F (getd z m i))[j]? := by
  have hl : i.toNat < m.length := by omega
  have hg := flatMap_get hF z m i.toNat j hl hj
  have hx : ((F (m.getD i.toNat z))[j]?) = some ((F (m.getD i.toNat z))[j]'(by rw [hF.len]; exact hj)) := List.getElem?_eq_getElem _
  rw [hx] at hg
  obtain ⟨ad, rfl, _, hc⟩ := h _ _ hg
  simp only [sAddrK, Option.getD_some, getd]
  rw [add_add, hc, hx]

theorem ob_getF {x : Bool} (hF : EncK F k) (z : α) {j : Nat} {v : Value} (hag : runPure P (isAgg t) = some false) (hr : ∀ w, C w → ∃ B, Rd w B A (m.flatMap F)) (hl : ∀ w, C w → n = m.length) (h : (∀ y ∈ hyps, y.1 = y.2) → 0 ≤ i ∧ i < (n : Int)) (hj : j < k)
    (hv : (F (getd z m i))[j]? = some v) : Ob.holds P C x ⟨false, hyps, vS (Instr.loadAt t (.pointer (some ((sAddrK A k i).add j)))), v⟩ :=
  ob_load hag fun hy w hw => by
    obtain ⟨B, hr⟩ := hr w hw
    have h2 := hl w hw
    rw [cellK hF z hr (h hy).1 (by have := (h hy).2; omega) hj, hv]

theorem own_blockK {v : Value} {n : Nat} {xs : List Value} (h : w.ownsRow 0 e k v n xs) : ∀ j ∈ v.ownBlock.toList, j < w.heap.size := by
  intro j hj
  exact (h.lt j (by simpa using hj)).2

/-- append. -/
theorem run_appK {ys : List α} {A2 : Option Addr} {m2 c2 : Nat} {z : Value} (hF : EncK F k) (hS : Sep w0 B w (l ++ ownK e k A n c (m.flatMap F) :: r)) (hr : Rd w w.heap.size A2 (ys.flatMap F)) (hm : m2 = ys.length) (ty : TypeId)
    (ht : P.underlying t = some (.slice e)) (hi : P.info? e = some inf) (hz : inf.zero = some z) (hs : inf.size = k) (hzs : z.cells.size = k) (hby : inf.bytes ≤ 128) (hl : (n : Int) + m2 ≤ bigK) :
    ∃ A' c' w', (vS (Builtin.append_ #[t, t] ty #[.slice A n c, .slice A2 m2 c2])).run P w = .ok (.value (.slice A' (m ++ ys).length c')) w' ∧ Sep w0 B w' (l ++ ownK e k A' (m ++ ys).length c' ((m ++ ys).flatMap F) :: r) := by
  have hn := hS.lenK hF
  obtain ⟨f, ⟨hf, hf2⟩, hfb⟩ := hS.get
  subst hm
  cases A2 with
  | none =>
    have hy : ys = [] := by
      cases ys with
      | nil => rfl
      | cons y ys => have := hr.someK hF (by simp); simp at this
    subst hy
    refine ⟨A, c, w, ?_, ?_⟩
    · have h9 : (Builtin.append_ #[t, t] ty #[.slice A n c, .slice none 0 c2]).run P w = .ok (.slice A n c) w := by
        rcases hf.2 with ⟨hv, hn0⟩ | ⟨g, cap, cur, hv, _, _, hnc, _⟩
        · injection hv with h1 h2 h3; subst h1; subst h2; subst h3
          simp [Builtin.append_, run_underlying ht, sizeOf, typeInfo, hi, Builtin.lenOf, Builtin.firstCells]
        · injection hv with h1 h2 h3; subst h1; subst h3
          simp [Builtin.append_, run_underlying ht, sizeOf, typeInfo, hi, Builtin.lenOf, Builtin.firstCells, hnc, storeCells]
      have := vS_run h9
      simpa [hn] using this
    · simpa [hn] using hS
  | some a =>
    have hcells : ∀ j u, (ys.flatMap F)[j]? = some u → w.cell? (a.add j) = some u := fun j u hu => by
      obtain ⟨ad, h, _, hc⟩ := hr j u hu
      injection h with h
      subst h
      exact hc
    have hb : (n + ys.length) * inf.bytes ≤ 140737488355328 := by
      have h2 : n + ys.length ≤ 1099511627776 := by unfold bigK at hl; omega
      calc (n + ys.length) * inf.bytes ≤ 1099511627776 * 128 := Nat.mul_le_mul h2 hby
        _ ≤ 140737488355328 := by decide
    obtain ⟨v', w', hrun, hown, hg, _, hbl⟩ := run_append_own_at (P := P) w 0 t ty e inf z k inf.bytes ht hi hz hs rfl hzs hF.pos (.slice A n c) n _ hf a ys.length c2 (ys.flatMap F) (by rw [flatMap_len hF]) hcells (flatMap_one hF)
      (by unfold maxLen; unfold bigK at hl; omega) hb (Nat.zero_le _)
    have hown' : w'.ownsRow 0 e k v' (m ++ ys).length ((m ++ ys).flatMap F) := by rw [List.length_append, List.flatMap_append, ← hn]; exact hown
    obtain ⟨A', c', rfl, _⟩ := own_formK hown'
    refine ⟨A', c', w', vS_run hrun, hS.upd fun f' hf' hb' => ⟨_, ⟨hown', rfl⟩, ?_, ?_, own_blockK hown'⟩⟩
    · rw [hf'.2]; exact Ex.of_grown hg
    · intro j hj
      rw [hf'.2]
      rcases hbl with h | h
      · rw [h] at hj; exact .inl hj
      · rw [h] at hj
        simp at hj
        exact .inr (by omega)

end

/-! ### Regions that draw their order, several operations that do something free at a time -/
section
variable {P : Program} {ops : Array Oper} {Q : Exit → Act → World → Prop} {S : World → Prop}

def headsB5 (ops : Array Oper) (ts : List Nat) : List Nat → Array Bool → Array Bool → Bool
  | [], listed, l1 => decide (listed = l1)
  | k :: r, listed, l1 => (Region.ready .any ops listed).contains k && Region.free .any ops listed k &&
      (match ops[k]? with | some o => wfree o || ts.all (fun j => reaches ops ops.size j k) | none => false) && headsB5 ops ts r (listed.setIfInBounds k true) l1

def effT (es : List Nat) (j : Nat) : Bool := es.contains j

theorem anyG_heads5 {ts : List Nat} {l1 : Array Bool} {m : Nat} (hsel : Region.noSelect ops = true) (hQ : ∀ c a w, ¬ Q (.panic c) a w) :
    ∀ (hs : List Nat) (lh : List Oper) (listed : Array Bool) (a : Act) (w : World), hs.map (ops[·]?) = lh.map some → Closed ops listed → headsB5 ops ts hs listed l1 = true → S w →
    wpQ P ops S true (fun a' => wpAnyG P ops Q S (effT ts) m l1 a' w) lh a →
    wpAnyG P ops Q S (effT ts) (hs.length + m) listed a w
  | [], [], listed, a, w, _, _, hB, _, h => by
    rw [List.length_nil, Nat.zero_add]
    simp only [headsB5, decide_eq_true_eq] at hB
    rw [hB]
    exact h
  | [], _ :: _, _, _, _, hm, _, _, _, _ => by simp at hm
  | _ :: _, [], _, _, _, hm, _, _, _, _ => by simp at hm
  | k :: hs, o :: lh, listed, a, w, hm, hcl, hB, hS, h => by
    simp only [List.map_cons, List.cons.injEq] at hm
    simp only [headsB5, Bool.and_eq_true, hm.1] at hB
    obtain ⟨⟨⟨hr, hf⟩, hwf⟩, hB'⟩ := hB
    have hr' : k ∈ Region.ready .any ops listed := by simpa using hr
    have ih := fun a' (h' : wpQ P ops S true (fun a' => wpAnyG P ops Q S (effT ts) m l1 a' w) lh a') => anyG_heads5 hsel hQ hs lh (listed.setIfInBounds k true) a' w hm.2 (hcl.set hr') hB' hS h'
    have hQ' : ∀ v, ∀ c a w, Q (.panic c) (a.put o.dst v) w → Q (.panic c) a w := fun v c a w hx => absurd hx (hQ _ _ _)
    rw [show (k :: hs).length + m = (hs.length + m) + 1 by simp only [List.length_cons]; omega]
    unfold wpQ at h
    by_cases hw : Region.wanted o (yielded ops a.tmps) = true
    · rw [if_pos hw] at h
      obtain ⟨v, hq, hrest⟩ := h
      cases hfr : wfree o with
      | true =>
        have hy : YieldsIf P ops (fun _ => True) o v a := .inl ⟨hw, fun w _ => by unfold Oper.q at hq; rw [hfr] at hq; exact hq w⟩
        exact wpAnyG_free hm.1 (Region.noSelect_spec hsel) (hQ' v) _ listed a w (Region.free_spec hm.1 hf) hr' hy (ih _ hrest)
      | false =>
        have hy : YieldsIf P ops S o v a := .inl ⟨hw, fun w hw' => by unfold Oper.q at hq; rw [hfr] at hq; exact hq w hw'⟩
        rw [hfr] at hwf
        simp only [Bool.false_or, List.all_eq_true] at hwf
        exact wpAnyG_first hm.1 (Region.noSelect_spec hsel) (hQ' v) ops.size _ listed a w hcl (fun j hj _ => hwf j (by simpa [effT] using hj)) (Region.free_spec hm.1 hf) hr' hy hS (ih _ hrest)
    · rw [if_neg hw] at h
      have hy : YieldsIf P ops (fun _ => True) o undef a := .inr ⟨by simpa using hw, rfl⟩
      exact wpAnyG_free hm.1 (Region.noSelect_spec hsel) (hQ' undef) _ listed a w (Region.free_spec hm.1 hf) hr' hy (ih _ h)

def keepK (K : Act → World → Prop) (Q : Exit → Act → World → Prop) : Exit → Act → World → Prop
  | .normal, a, w => K a w
  | e, a, w => Q e a w

theorem wpOp_of_list {i : Nat} {o : Oper} {K : Act → World → Prop} {a : Act} {w : World} (hi : ops[i]? = some o) (h : listR P ops (keepK K Q) [o] a w) : opR P ops Q i K a w := by
  unfold opR
  simp only [hi]
  unfold listR at h
  have key : ∀ a' w', listR P ops (keepK K Q) [] a' w' → K a' w' := fun a' w' h' => h'
  split
  · rename_i hw
    rw [if_pos hw] at h
    exact oR_mono (fun a' w' h' => key _ _ h') h
  · rename_i hw
    rw [if_neg hw] at h
    exact key _ _ h

theorem any_end {fuel : Nat} {eff : Nat → Bool} {listed : Array Bool} {a : Act} {w : World} (hr : Region.ready .any ops listed = []) (h : Q .normal a w) : wpAnyG P ops Q S eff fuel listed a w := by
  cases fuel with
  | zero => exact ⟨hr, h⟩
  | succ f => exact ⟨fun _ => h, fun i hi => by rw [hr] at hi; cases hi⟩
end

section
variable {P : Program} {Q : Exit → Act → World → Prop} {S : World → Prop} {l : List Oper} {a : Act} {w : World} {ts : List Nat}

def TK (P : Program) (l : List Oper) (Q : Exit → Act → World → Prop) (S : World → Prop) (es : List Nat) (f : Nat) (listed : Array Bool) (i : Nat) (w : World) (a' : Act) (w' : World) : Prop :=
  (effT es i = false → S w → S w') ∧ wpAnyG P l.toArray (noPanic Q) S (effT es) f listed a' w'

/-- One of the operations that may come next: each way. -/
theorem any_step {es : List Nat} {f : Nat} {listed : Array Bool} (ks : List Nat) (hr : Region.ready .any l.toArray listed = ks) (hne : ks.isEmpty = false)
    (hK : ∀ i ∈ ks, opR P l.toArray (noPanic Q) i (TK P l Q S es f (listed.setIfInBounds i true) i w) a w) :
    wpAnyG P l.toArray (noPanic Q) S (effT es) (f + 1) listed a w :=
  ⟨fun h0 => (by rw [hr] at h0; rw [h0] at hne; cases hne), fun i hi => (by rw [hr] at hi; exact hK i hi)⟩

theorem any_op {es : List Nat} {f i : Nat} {listed listed' : Array Bool} (hl : listed = listed') (h1 : [l[i]?] = (sel? l [i]).map some)
    (h : wpAt P l.toArray (sel? l [i]) (keepK (TK P l Q S es f listed' i w) (noPanic Q)) 0 a w) :
    opR P l.toArray (noPanic Q) i (TK P l Q S es f listed i w) a w := by
  subst hl
  obtain ⟨o1, ho1⟩ : ∃ o1, l[i]? = some o1 := by
    cases hl : l[i]? with
    | none => rw [hl] at h1; simp [sel?, hl] at h1
    | some o1 => exact ⟨o1, rfl⟩
  have hsel1 : sel? l [i] = [o1] := by simp [sel?, ho1]
  rw [hsel1] at h
  exact wpOp_of_list (o := o1) (by simpa using ho1) (by simpa [wpAt] using h)

/-- Behind it: the world is still of S, or the operation is one of 'es'. -/
theorem any_fin {es : List Nat} {f i : Nat} {listed : Array Bool} {w1 : World} {lt : List Oper} {k : Nat} (hk : lt.drop k = []) (h1 : S w) (h2 : wpAnyG P l.toArray (noPanic Q) S (effT es) f listed a w) : wpAt P l.toArray lt (keepK (TK P l Q S es f listed i w1) (noPanic Q)) k a w :=
  at_fin hk ⟨fun _ _ => h1, h2⟩
theorem all_cons {p : Nat → Prop} {k : Nat} {ks : List Nat} (h : p k) (hs : ∀ i ∈ ks, p i) : ∀ i ∈ k :: ks, p i := fun i hi => by
  rcases List.mem_cons.1 hi with rfl | hi
  · exact h
  · exact hs i hi
theorem all_nil {p : Nat → Prop} : ∀ i ∈ ([] : List Nat), p i := fun i hi => by cases hi

theorem regMix5 {w0 : World} {B n : Nat} {ρ : Env} {ps : List HP} {id : Nat} (hs ts : List Nat) (m : Nat) (l1 : Array Bool) (obs : List Ob) (orc : List (Option Value)) (sl : List Nat) (τ : Env) (hF : FrD Ds n ρ a) (hS : Sep w0 B w ps)
    (hfol : P.follows .mixedOrders = true) (hB : (Region.noSelect l.toArray && decide (hs.length + m = l.toArray.size) && headsB5 l.toArray ts hs (Array.replicate l.toArray.size false) l1) = true) (hh : hs.map (l[·]?) = (sel? l hs).map some) (hdst : dstOk n (sel? l hs) = true)
    (hev : (evR P l.toArray (sel? l hs) orc ρ).map (fun x => (x.1.sel sl, x.2)) = some (τ, obs)) (hob : ∀ b ∈ obs, b.holds P (fun w' => Sep w0 B w' ps) true)
    (hK : ∀ a' w', FrD Ds n τ a' → Sep w0 B w' ps → wpAnyG P l.toArray (noPanic Q) (fun w' => Sep w0 B w' ps) (effT ts) m l1 a' w') : (Code.region id l.toArray true).wpIn (RF ro) 9 P Q a w := by
  cases hx : evR P l.toArray (sel? l hs) orc ρ with
  | none => rw [hx] at hev; simp at hev
  | some x =>
    rw [hx] at hev
    simp at hev
    obtain ⟨ρ1, obs1⟩ := x
    simp only at hev
    obtain ⟨e1, rfl⟩ := hev
    simp only [Bool.and_eq_true, decide_eq_true_eq] at hB
    obtain ⟨⟨hsel, hlen⟩, hheads⟩ := hB
    refine Go.Code.wpIn_mono (Q := noPanic Q) (fun e a w h => by cases e <;> first | exact h | exact h.elim) ?_
    refine regionR_any hfol (wpAny_of_G (S := fun w' => Sep w0 B w' ps) (eff := effT ts) _ _ _ _ ?_)
    have hcl : Closed l.toArray (Array.replicate l.toArray.size false) := by
      intro j o _ hl
      rcases Nat.lt_or_ge j l.length with h | h <;> simp [h] at hl
    rw [← hlen] at hcl hheads ⊢
    refine anyG_heads5 hsel (fun c a w h => h) hs (sel? l hs) _ a _ (by simpa using hh) hcl hheads hS.drew ?_
    exact evR_q (P := P) (ops := l.toArray) (C := fun w' => Sep w0 B w' ps) (x := true) (sel? l hs) orc ρ ρ1 _ a hx hdst hob hF fun a' hF' => hK a' _ (hF'.weak sl e1) hS.drew
end

section
variable {w0 w : World} {B : Nat} {l r ps : List HP} {e : TypeId} {A : Option Addr} {n c k : Nat} {α : Type} {F : α → List Value} {m : List α}
end
end Go.GL
