/-
  A small library of our own: a region that draws its order, with one operation (a call, say) that is free of a load and leaves what is there as it is.
-/
import Derived.Test.YtdbdcbejmbpbmaaDoorLibQ
namespace Go.GL
open Go Go.RowKit
variable {Ds : List Nat} {ro : Option Nat}

section
variable {P : Program}
/-! A part of a struct's value leaves the world as it is. -/
theorem isAgg_run {e : TypeId} {w w' : World} {b : Bool} (h : (isAgg e).run P w = .ok b w') : w' = w := by
  unfold isAgg underlying at h
  cases hu : P.underlying e with
  | none => simp [hu] at h
  | some d =>
    simp [hu] at h
    cases d <;> simp at h <;> exact h.2.symm
theorem sizeOf_run {e : TypeId} {w w' : World} {b : Nat} (h : (sizeOf e).run P w = .ok b w') : w' = w := by
  unfold sizeOf typeInfo at h
  cases hu : P.info? e with
  | none => simp [hu] at h
  | some d => simp [hu] at h; exact h.2.symm
theorem part_run {e : TypeId} {cs : Array Value} {o : Nat} {w w' : World} {u : Value} (h : (part e cs o).run P w = .ok u w') : w' = w := by
  unfold part at h
  rw [Sem.run_bind] at h
  cases ha : (isAgg e).run P w with
  | halt x w2 => rw [ha] at h; simp at h
  | ok b w2 =>
    rw [ha] at h
    have := isAgg_run ha
    subst this
    cases b with
    | true =>
      simp only [Result.andThen_ok] at h
      rw [if_pos trivial] at h
      rw [Sem.run_bind] at h
      cases hs : (sizeOf e).run P w2 with
      | halt x w3 => rw [hs] at h; simp at h
      | ok k w3 =>
        rw [hs] at h
        have := sizeOf_run hs
        subst this
        simp at h
        exact h.2.symm
    | false =>
      simp only [Result.andThen_ok] at h
      rw [if_neg (by decide)] at h
      split at h
      · simp at h; exact h.2.symm
      · simp at h
theorem field_run {t : TypeId} {v : Value} {f : Nat} {w w' : World} {u : Value} (h : (Instr.field t v f).run P w = .ok u w') : w' = w := by
  unfold Instr.field underlying at h
  cases hu : P.underlying t with
  | none => simp [hu] at h
  | some d =>
    simp [hu] at h
    cases d <;> simp at h
    split at h
    · rw [Sem.run_bind] at h
      cases hv : (asAgg v).run P w with
      | halt x w2 => rw [hv] at h; simp at h
      | ok cs w2 =>
        rw [hv] at h
        have : w2 = w := by
          unfold asAgg at hv
          split at hv
          · simp at hv; exact hv.2.symm
          · simp at hv
        subst this
        exact part_run h
    · simp at h
theorem fld_run {σ : Operand → Value} {o : Oper} {t : TypeId} {x : Operand} {f : Nat} {w w' : World} {nx : Next} (ho : o.op = .field t x f) (h : (execOp σ o).run P w = .ok nx w') : ∃ v, nx = .value v ∧ w' = w := by
  unfold execOp at h
  rw [ho] at h
  simp only at h
  rw [Sem.run_bind] at h
  cases hr : (Instr.field t (σ x) f).run P w with
  | ok v w2 =>
    rw [hr] at h
    simp at h
    have := field_run hr
    subst this
    exact ⟨v, h.1.symm, h.2.symm⟩
  | halt x w2 =>
    rw [hr] at h
    simp at h

def isCalm (ops : Array Oper) (j : Nat) : Bool := isAlc ops j || match ops[j]? with
  | some o => match o.op with | .field _ _ _ => true | _ => false
  | none => false

end

section
variable {P : Program} {ops : Array Oper} {Q : Exit → Act → World → Prop} {S : World → Prop}

def isTriv (ops : Array Oper) (j : Nat) : Bool := match ops[j]? with
  | some o => match o.op with | .move _ | .assign _ | .extract _ _ => true | _ => false
  | none => false

theorem triv_run {σ : Operand → Value} {o : Oper} {w w' : World} {nx : Next} (ho : (match o.op with | .move _ | .assign _ | .extract _ _ => true | _ => false) = true) (h : (execOp σ o).run P w = .ok nx w') : ∃ v, nx = .value v ∧ w' = w ∧ ∀ w2, (execOp σ o).run P w2 = .ok (.value v) w2 := by
  cases hop : o.op <;> rw [hop] at ho <;> simp only at ho <;> first
    | (cases ho; done)
    | skip
  case move x =>
    have e : ∀ w2, (execOp σ o).run P w2 = .ok (.value (σ x)) w2 := fun w2 => by unfold execOp; rw [hop]; rfl
    rw [e] at h
    injection h with h1 h2
    exact ⟨_, h1.symm, h2.symm, e⟩
  case assign x =>
    have e : ∀ w2, (execOp σ o).run P w2 = .ok (.value (σ x)) w2 := fun w2 => by unfold execOp; rw [hop]; rfl
    rw [e] at h
    injection h with h1 h2
    exact ⟨_, h1.symm, h2.symm, e⟩
  case extract t ix =>
    have e0 : ∀ w2, (execOp σ o).run P w2 = (vS (Instr.extract (σ t) ix)).run P w2 := fun w2 => by unfold execOp; rw [hop]; rfl
    rw [e0] at h
    unfold Instr.extract at h e0
    split at h
    · rename_i vs hv
      split at h
      · rename_i u hu
        have e : ∀ w2, (execOp σ o).run P w2 = .ok (.value u) w2 := fun w2 => by
          rw [e0, hv]
          simp only [hu]
          rfl
        have h9 : Result.ok (Next.value u) w = Result.ok nx w' := h
        injection h9 with h1 h2
        exact ⟨_, h1.symm, h2.symm, e⟩
      · simp [vS] at h
    · simp [vS] at h

def tailsT (ops : Array Oper) : List Nat → Array Bool → Bool
  | [], listed => (Region.ready .any ops listed).isEmpty
  | k :: r, listed => (decide (Region.ready .any ops listed = [k]) || ((Region.ready .any ops listed).contains k && Region.free .any ops listed k && isTriv ops k)) && tailsT ops r (listed.setIfInBounds k true)

theorem anyG_tailsT (hsel : Region.noSelect ops = true) (hQ : ∀ c a w, ¬ Q (.panic c) a w) (hA : ∀ w c, S w → S (w.alloc c)) (ts0 : List Nat) : ∀ (ts : List Nat) (lt : List Oper) (listed : Array Bool) (a : Act) (w : World), ts.map (ops[·]?) = lt.map some → (∀ t ∈ ts, t ∈ ts0) → tailsT ops ts listed = true →
    listR P ops Q lt a w → wpAnyG P ops Q S (fun j => ts0.contains j && !isCalm ops j) ts.length listed a w
  | [], [], listed, a, w, _, _, hB, h => ⟨by simpa [tailsT] using hB, h⟩
  | [], _ :: _, _, _, _, hm, _, _, _ => by simp at hm
  | _ :: _, [], _, _, _, hm, _, _, _ => by simp at hm
  | k :: ts, o :: lt, listed, a, w, hm, he, hB, h => by
    simp only [List.map_cons, List.cons.injEq] at hm
    simp only [tailsT, Bool.and_eq_true, Bool.or_eq_true, decide_eq_true_eq] at hB
    obtain ⟨hk, hB2⟩ := hB
    have ih := fun a' w' (h' : listR P ops Q lt a' w') => anyG_tailsT hsel hQ hA ts0 ts lt (listed.setIfInBounds k true) a' w' hm.2 (fun t ht => he t (by simp [ht])) hB2 h'
    rcases hk with hk | ⟨⟨hr, hf⟩, ht⟩
    · refine ⟨fun h0 => (by rw [hk] at h0; cases h0), fun i hi => ?_⟩
      rw [hk] at hi
      obtain rfl : i = k := by simpa using hi
      unfold opR
      simp only [hm.1]
      have hh : ((ts0.contains i && !isCalm ops i) = false) → (∃ t n ps, o.op = .buildSlice t n ps) ∨ ∃ t x f, o.op = .field t x f := fun h0 => by
        have h1 : ts0.contains i = true := by simpa using he i (by simp)
        rw [h1] at h0
        simp only [Bool.true_and, Bool.not_eq_false'] at h0
        unfold isCalm isAlc at h0
        rw [hm.1] at h0
        simp only [Bool.or_eq_true] at h0
        rcases h0 with h0 | h0
        · split at h0
          · exact .inl ⟨_, _, _, ‹_›⟩
          · cases h0
        · split at h0
          · exact .inr ⟨_, _, _, ‹_›⟩
          · cases h0
      unfold listR at h
      split
      · rename_i hw
        rw [if_pos hw] at h
        cases he0 : (ts0.contains i && !isCalm ops i) with
        | true => exact oR_mono (fun a' w' h' => ⟨fun h0 => (by simp [he0] at h0), ih a' w' h'⟩) h
        | false =>
          unfold oR at h ⊢
          rcases hh he0 with ⟨t, n, ps, ho⟩ | ⟨t, x, f, ho⟩
          · cases hr : (execOp a.eval o).run P w with
            | ok nx w' =>
              obtain ⟨v, c, rfl, rfl⟩ := alc_run ho hr
              rw [hr] at h
              exact ⟨fun _ hs => hA w c hs, ih _ _ h⟩
            | halt x w' =>
              rw [hr] at h
              exact h.elim
          · cases hr : (execOp a.eval o).run P w with
            | ok nx w' =>
              obtain ⟨v, rfl, rfl⟩ := fld_run ho hr
              rw [hr] at h
              exact ⟨fun _ hs => hs, ih _ _ h⟩
            | halt x w' =>
              rw [hr] at h
              exact h.elim
      · rename_i hw
        rw [if_neg hw] at h
        exact ⟨fun _ hs => hs, ih _ _ h⟩
    · have hr' : k ∈ Region.ready .any ops listed := by simpa using hr
      unfold isTriv at ht
      rw [hm.1] at ht
      have hQ' : ∀ v, ∀ c a w, Q (.panic c) (a.put o.dst v) w → Q (.panic c) a w := fun v c a w hx => absurd hx (hQ _ _ _)
      unfold listR at h
      by_cases hw : Region.wanted o (yielded ops a.tmps) = true
      · rw [if_pos hw] at h
        unfold oR at h
        cases hrun : (execOp a.eval o).run P w with
        | ok nx w1 =>
          obtain ⟨v, rfl, rfl, hall⟩ := triv_run ht hrun
          rw [hrun] at h
          simp only [upR] at h
          have hy : YieldsIf P ops (fun _ => True) o v a := .inl ⟨hw, fun w2 _ => hall w2⟩
          exact wpAnyG_free hm.1 (Region.noSelect_spec hsel) (hQ' v) _ listed a w1 (Region.free_spec hm.1 hf) hr' hy (ih _ _ h)
        | halt x w1 =>
          rw [hrun] at h
          exact h.elim
      · rw [if_neg hw] at h
        have hy : YieldsIf P ops (fun _ => True) o undef a := .inr ⟨by simpa using hw, rfl⟩
        exact wpAnyG_free hm.1 (Region.noSelect_spec hsel) (hQ' undef) _ listed a w (Region.free_spec hm.1 hf) hr' hy (ih _ _ h)

def headsB4 (ops : Array Oper) (ts : List Nat) : List Nat → Array Bool → Bool
  | [], listed => tailsT ops ts listed
  | k :: r, listed => (Region.ready .any ops listed).contains k && Region.free .any ops listed k &&
      (match ops[k]? with | some o => wfree o || ts.all (fun j => isCalm ops j || reaches ops ops.size j k) | none => false) && !ts.contains k && headsB4 ops ts r (listed.setIfInBounds k true)

def mixB4 (ops : Array Oper) (hs ts : List Nat) : Bool :=
  Region.noSelect ops && decide (hs.length + ts.length = ops.size) && headsB4 ops ts hs (Array.replicate ops.size false)

theorem anyG_heads4 (hA : ∀ w c, S w → S (w.alloc c)) {ts : List Nat} {lt : List Oper} (hsel : Region.noSelect ops = true) (hQ : ∀ c a w, ¬ Q (.panic c) a w) (hmt : ts.map (ops[·]?) = lt.map some) :
    ∀ (hs : List Nat) (lh : List Oper) (listed : Array Bool) (a : Act) (w : World), hs.map (ops[·]?) = lh.map some → Closed ops listed → headsB4 ops ts hs listed = true → S w →
    wpQ P ops S true (fun a' => listR P ops Q lt a' w) lh a →
    wpAnyG P ops Q S (fun j => ts.contains j && !isCalm ops j) (hs.length + ts.length) listed a w
  | [], [], listed, a, w, _, _, hB, _, h => by
    rw [List.length_nil, Nat.zero_add]
    exact anyG_tailsT hsel hQ hA ts ts lt listed a w hmt (fun t ht => ht) hB h
  | [], _ :: _, _, _, _, hm, _, _, _, _ => by simp at hm
  | _ :: _, [], _, _, _, hm, _, _, _, _ => by simp at hm
  | k :: hs, o :: lh, listed, a, w, hm, hcl, hB, hS, h => by
    simp only [List.map_cons, List.cons.injEq] at hm
    simp only [headsB4, Bool.and_eq_true, hm.1] at hB
    obtain ⟨⟨⟨⟨hr, hf⟩, hwf⟩, hnt⟩, hB'⟩ := hB
    have hr' : k ∈ Region.ready .any ops listed := by simpa using hr
    have ih := fun a' (h' : wpQ P ops S true (fun a' => listR P ops Q lt a' w) lh a') => anyG_heads4 hA hsel hQ hmt hs lh (listed.setIfInBounds k true) a' w hm.2 (hcl.set hr') hB' hS h'
    have hQ' : ∀ v, ∀ c a w, Q (.panic c) (a.put o.dst v) w → Q (.panic c) a w := fun v c a w hx => absurd hx (hQ _ _ _)
    rw [show (k :: hs).length + ts.length = (hs.length + ts.length) + 1 by simp only [List.length_cons]; omega]
    unfold wpQ at h
    by_cases hw : Region.wanted o (yielded ops a.tmps) = true
    · rw [if_pos hw] at h
      obtain ⟨v, hq, hrest⟩ := h
      cases hfr : wfree o with
      | true =>
        have hy : YieldsIf P ops (fun _ => True) o v a := .inl ⟨hw, fun w _ => by unfold Oper.q at hq; rw [hfr] at hq; exact hq w⟩
        exact wpAnyG_free hm.1 (Region.noSelect_spec hsel) (hQ' v) _ listed a w (Region.free_spec hm.1 hf) hr' hy (ih _ hrest)
      | false =>
        have hy : YieldsIf P ops S o v a := .inl ⟨hw, fun w hw' => by unfold Oper.q at hq; rw [hfr] at hq; exact hq w hw'⟩
        rw [hfr] at hwf
        simp only [Bool.false_or, List.all_eq_true, Bool.or_eq_true] at hwf
        exact wpAnyG_first hm.1 (Region.noSelect_spec hsel) (hQ' v) ops.size _ listed a w hcl (fun j hj _ => by
          simp only [Bool.and_eq_true, Bool.not_eq_true'] at hj
          rcases hwf j (by simpa using hj.1) with h1 | h1
          · rw [hj.2] at h1; cases h1
          · exact h1) (Region.free_spec hm.1 hf) hr' hy hS (ih _ hrest)
    · rw [if_neg hw] at h
      have hy : YieldsIf P ops (fun _ => True) o undef a := .inr ⟨by simpa using hw, rfl⟩
      exact wpAnyG_free hm.1 (Region.noSelect_spec hsel) (hQ' undef) _ listed a w (Region.free_spec hm.1 hf) hr' hy (ih _ h)
end

theorem regMix4 {P : Program} {Q : Exit → Act → World → Prop} {a : Act} {w0 w : World} {B n : Nat} {ρ : Env} {ps : List HP} {id : Nat} {l : List Oper} (hs ts : List Nat) (obs : List Ob) (orc : List (Option Value)) (sl : List Nat) (τ : Env) (hF : FrD Ds n ρ a) (hS : Sep w0 B w ps)
    (hfol : P.follows .mixedOrders = true) (hB : mixB4 l.toArray hs ts = true) (hh : hs.map (l[·]?) = (sel? l hs).map some) (ht : ts.map (l[·]?) = (sel? l ts).map some) (hdst : dstOk n (sel? l hs) = true)
    (hev : (evR P l.toArray (sel? l hs) orc ρ).map (fun x => (x.1.sel sl, x.2)) = some (τ, obs)) (hob : ∀ b ∈ obs, b.holds P (fun w' => Sep w0 B w' ps) true)
    (hK : ∀ a' w', FrD Ds n τ a' → Sep w0 B w' ps → wpAt P l.toArray (sel? l ts) (noPanic Q) 0 a' w') : (Code.region id l.toArray true).wpIn (RF ro) 9 P Q a w := by
  cases hx : evR P l.toArray (sel? l hs) orc ρ with
  | none => rw [hx] at hev; simp at hev
  | some x =>
    rw [hx] at hev
    simp at hev
    obtain ⟨ρ1, obs1⟩ := x
    simp only at hev
    obtain ⟨e1, rfl⟩ := hev
    simp only [mixB4, Bool.and_eq_true, decide_eq_true_eq] at hB
    obtain ⟨⟨hsel, hlen⟩, hheads⟩ := hB
    refine Go.Code.wpIn_mono (Q := noPanic Q) (fun e a w h => by cases e <;> first | exact h | exact h.elim) ?_
    refine regionR_any hfol (wpAny_of_G (S := fun w' => Sep w0 B w' ps) (eff := fun j => ts.contains j && !isCalm l.toArray j) _ _ _ _ ?_)
    have hcl : Closed l.toArray (Array.replicate l.toArray.size false) := by
      intro j o _ hl
      rcases Nat.lt_or_ge j l.length with h | h <;> simp [h] at hl
    rw [← hlen] at hcl hheads ⊢
    refine anyG_heads4 (fun w c h => h.ex0 (Ex.of_grown (World.grownBy_alloc w c none))) hsel (fun c a w h => h) (by simpa using ht) hs (sel? l hs) _ a _ (by simpa using hh) hcl hheads hS.drew ?_
    exact evR_q (P := P) (ops := l.toArray) (C := fun w' => Sep w0 B w' ps) (x := true) (sel? l hs) orc ρ ρ1 _ a hx hdst hob hF fun a' hF' => hK a' _ (hF'.weak sl e1) hS.drew
end Go.GL
