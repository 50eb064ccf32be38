/-
  A small library of our own: a region that draws its order, with literals that may be built ahead of a load.
-/
import Derived.Test.YtlkdblflibgfpaaLibR
namespace Go.GL
open Go Go.RowKit
variable {Ds : List Nat} {ro : Option Nat}

section
variable {P : Program} {ops : Array Oper} {Q : Exit → Act → World → Prop} {S : World → Prop}

def isAlc (ops : Array Oper) (j : Nat) : Bool := match ops[j]? with
  | some o => match o.op with | .buildSlice _ _ _ => true | _ => false
  | none => false

theorem bs_run {t : TypeId} {n : Nat} {parts : Array (Nat × Value)} {w w' : World} {v : Value} (h : (Instr.buildSlice t n parts).run P w = .ok v w') : ∃ c, w' = w.alloc c := by
  unfold Instr.buildSlice at h
  cases hu : P.underlying t with
  | none => simp [underlying, hu] at h
  | some d =>
    rw [Sem.run_bind, run_underlying hu] at h
    simp only [Result.andThen_ok] at h
    cases d with
    | slice elem =>
      simp only at h
      cases hi : P.info? elem with
      | none => simp [sizeOf, typeInfo, hi] at h
      | some inf =>
        have hs : ∀ w, (sizeOf elem).run P w = .ok inf.size w := fun w => by simp [sizeOf, typeInfo, hi]
        rw [Sem.run_bind, hs] at h
        simp only [Result.andThen_ok] at h
        by_cases hb : n * inf.size > 2 ^ 24
        · rw [if_pos hb] at h
          simp [unsupported] at h
        · rw [if_neg hb] at h
          by_cases h0 : n * inf.size = 0
          · rw [if_pos h0] at h
            simp only [pure_bind] at h
            split at h
            · simp [newRow] at h
              exact ⟨_, h.2.symm⟩
            · simp at h
          · rw [if_neg h0] at h
            cases hz : inf.zero with
            | none => simp [zeroValue, typeInfo, hi, hz, unsupported] at h
            | some z =>
              have hzv : ∀ w, (zeroValue elem).run P w = .ok z w := fun w => by simp [zeroValue, typeInfo, hi, hz]
              rw [Sem.run_bind, hzv] at h
              simp only [Result.andThen_ok, pure_bind] at h
              split at h
              · simp [newRow] at h
                exact ⟨_, h.2.symm⟩
              · simp at h
    | _ => simp at h
theorem alc_run {σ : Operand → Value} {o : Oper} {t : TypeId} {n : Nat} {ps : Array (Nat × Operand)} {w w' : World} {nx : Next} (ho : o.op = .buildSlice t n ps) (h : (execOp σ o).run P w = .ok nx w') : ∃ v c, nx = .value v ∧ w' = w.alloc c := by
  unfold execOp at h
  rw [ho] at h
  simp only at h
  rw [Sem.run_bind] at h
  cases hr : (Instr.buildSlice t n (ps.map fun x => (x.1, σ x.2))).run P w with
  | ok v w2 =>
    rw [hr] at h
    simp at h
    obtain ⟨c, rfl⟩ := bs_run hr
    exact ⟨v, c, h.1.symm, h.2.symm⟩
  | halt x w2 =>
    rw [hr] at h
    simp at h

def headsB2 (ops : Array Oper) (ts : List Nat) : List Nat → Array Bool → Bool
  | [], listed => headsB.tailsB ops ts listed
  | k :: r, listed => (Region.ready .any ops listed).contains k && Region.free .any ops listed k &&
      (match ops[k]? with | some o => wfree o || ts.all (fun j => isAlc ops j || reaches ops ops.size j k) | none => false) && !ts.contains k && headsB2 ops ts r (listed.setIfInBounds k true)

def mixB2 (ops : Array Oper) (hs ts : List Nat) : Bool :=
  Region.noSelect ops && decide (hs.length + ts.length = ops.size) && headsB2 ops ts hs (Array.replicate ops.size false)

theorem anyG_tailsA (hA : ∀ w c, S w → S (w.alloc c)) (ts0 : List Nat) : ∀ (ts : List Nat) (lt : List Oper) (listed : Array Bool) (a : Act) (w : World), ts.map (ops[·]?) = lt.map some → (∀ t ∈ ts, t ∈ ts0) → headsB.tailsB ops ts listed = true →
    listR P ops Q lt a w → wpAnyG P ops Q S (fun j => ts0.contains j && !isAlc ops j) ts.length listed a w
  | [], [], listed, a, w, _, _, hB, h => ⟨by simpa [headsB.tailsB] using hB, h⟩
  | [], _ :: _, _, _, _, hm, _, _, _ => by simp at hm
  | _ :: _, [], _, _, _, hm, _, _, _ => by simp at hm
  | k :: ts, o :: lt, listed, a, w, hm, he, hB, h => by
    simp only [List.map_cons, List.cons.injEq] at hm
    simp only [headsB.tailsB, Bool.and_eq_true, decide_eq_true_eq] at hB
    refine ⟨fun h0 => (by rw [hB.1] at h0; cases h0), fun i hi => ?_⟩
    rw [hB.1] at hi
    obtain rfl : i = k := by simpa using hi
    unfold opR
    simp only [hm.1]
    have ih := fun a' w' (h' : listR P ops Q lt a' w') => anyG_tailsA hA ts0 ts lt (listed.setIfInBounds i true) a' w' hm.2 (fun t ht => he t (by simp [ht])) hB.2 h'
    have hh : ((ts0.contains i && !isAlc ops i) = false) → ∃ t n ps, o.op = .buildSlice t n ps := fun h0 => by
      have h1 : ts0.contains i = true := by simpa using he i (by simp)
      rw [h1] at h0
      simp only [Bool.true_and, Bool.not_eq_false'] at h0
      unfold isAlc at h0
      rw [hm.1] at h0
      simp only at h0
      split at h0
      · exact ⟨_, _, _, ‹_›⟩
      · cases h0
    unfold listR at h
    split
    · rename_i hw
      rw [if_pos hw] at h
      cases he0 : (ts0.contains i && !isAlc ops i) with
      | true => exact oR_mono (fun a' w' h' => ⟨fun h0 => (by simp [he0] at h0), ih a' w' h'⟩) h
      | false =>
        obtain ⟨t, n, ps, ho⟩ := hh he0
        unfold oR at h ⊢
        cases hr : (execOp a.eval o).run P w with
        | ok nx w' =>
          obtain ⟨v, c, rfl, rfl⟩ := alc_run ho hr
          rw [hr] at h
          exact ⟨fun _ hs => hA w c hs, ih _ _ h⟩
        | halt x w' =>
          rw [hr] at h
          exact h.elim
    · rename_i hw
      rw [if_neg hw] at h
      exact ⟨fun _ hs => hs, ih _ _ h⟩

theorem anyG_headsA (hA : ∀ w c, S w → S (w.alloc c)) {ts : List Nat} {lt : List Oper} (hsel : Region.noSelect ops = true) (hQ : ∀ c a w, ¬ Q (.panic c) a w) (hmt : ts.map (ops[·]?) = lt.map some) :
    ∀ (hs : List Nat) (lh : List Oper) (listed : Array Bool) (a : Act) (w : World), hs.map (ops[·]?) = lh.map some → Closed ops listed → headsB2 ops ts hs listed = true → S w →
    wpQ P ops S true (fun a' => listR P ops Q lt a' w) lh a →
    wpAnyG P ops Q S (fun j => ts.contains j && !isAlc ops j) (hs.length + ts.length) listed a w
  | [], [], listed, a, w, _, _, hB, _, h => by
    rw [List.length_nil, Nat.zero_add]
    exact anyG_tailsA hA ts ts lt listed a w hmt (fun t ht => ht) hB h
  | [], _ :: _, _, _, _, hm, _, _, _, _ => by simp at hm
  | _ :: _, [], _, _, _, hm, _, _, _, _ => by simp at hm
  | k :: hs, o :: lh, listed, a, w, hm, hcl, hB, hS, h => by
    simp only [List.map_cons, List.cons.injEq] at hm
    simp only [headsB2, Bool.and_eq_true, hm.1] at hB
    obtain ⟨⟨⟨⟨hr, hf⟩, hwf⟩, hnt⟩, hB'⟩ := hB
    have hr' : k ∈ Region.ready .any ops listed := by simpa using hr
    have ih := fun a' (h' : wpQ P ops S true (fun a' => listR P ops Q lt a' w) lh a') => anyG_headsA hA hsel hQ hmt hs lh (listed.setIfInBounds k true) a' w hm.2 (hcl.set hr') hB' hS h'
    have hQ' : ∀ v, ∀ c a w, Q (.panic c) (a.put o.dst v) w → Q (.panic c) a w := fun v c a w hx => absurd hx (hQ _ _ _)
    rw [show (k :: hs).length + ts.length = (hs.length + ts.length) + 1 by simp only [List.length_cons]; omega]
    unfold wpQ at h
    by_cases hw : Region.wanted o (yielded ops a.tmps) = true
    · rw [if_pos hw] at h
      obtain ⟨v, hq, hrest⟩ := h
      cases hfr : wfree o with
      | true =>
        have hy : YieldsIf P ops (fun _ => True) o v a := .inl ⟨hw, fun w _ => by unfold Oper.q at hq; rw [hfr] at hq; exact hq w⟩
        exact wpAnyG_free hm.1 (Region.noSelect_spec hsel) (hQ' v) _ listed a w (Region.free_spec hm.1 hf) hr' hy (ih _ hrest)
      | false =>
        have hy : YieldsIf P ops S o v a := .inl ⟨hw, fun w hw' => by unfold Oper.q at hq; rw [hfr] at hq; exact hq w hw'⟩
        rw [hfr] at hwf
        simp only [Bool.false_or, List.all_eq_true, Bool.or_eq_true] at hwf
        exact wpAnyG_first hm.1 (Region.noSelect_spec hsel) (hQ' v) ops.size _ listed a w hcl (fun j hj _ => by
          simp only [Bool.and_eq_true, Bool.not_eq_true'] at hj
          rcases hwf j (by simpa using hj.1) with h1 | h1
          · rw [hj.2] at h1; cases h1
          · exact h1) (Region.free_spec hm.1 hf) hr' hy hS (ih _ hrest)
    · rw [if_neg hw] at h
      have hy : YieldsIf P ops (fun _ => True) o undef a := .inr ⟨by simpa using hw, rfl⟩
      exact wpAnyG_free hm.1 (Region.noSelect_spec hsel) (hQ' undef) _ listed a w (Region.free_spec hm.1 hf) hr' hy (ih _ h)
end

theorem regMix2 {P : Program} {Q : Exit → Act → World → Prop} {a : Act} {w0 w : World} {B n : Nat} {ρ : Env} {ps : List HP} {id : Nat} {l : List Oper} (hs ts : List Nat) (obs : List Ob) (orc : List (Option Value)) (sl : List Nat) (τ : Env) (hF : FrD Ds n ρ a) (hS : Sep w0 B w ps)
    (hfol : P.follows .mixedOrders = true) (hB : mixB2 l.toArray hs ts = true) (hh : hs.map (l[·]?) = (sel? l hs).map some) (ht : ts.map (l[·]?) = (sel? l ts).map some) (hdst : dstOk n (sel? l hs) = true)
    (hev : (evR P l.toArray (sel? l hs) orc ρ).map (fun x => (x.1.sel sl, x.2)) = some (τ, obs)) (hob : ∀ b ∈ obs, b.holds P (fun w' => Sep w0 B w' ps) true)
    (hK : ∀ a' w', FrD Ds n τ a' → Sep w0 B w' ps → wpAt P l.toArray (sel? l ts) (noPanic Q) 0 a' w') : (Code.region id l.toArray true).wpIn (RF ro) 9 P Q a w := by
  cases hx : evR P l.toArray (sel? l hs) orc ρ with
  | none => rw [hx] at hev; simp at hev
  | some x =>
    rw [hx] at hev
    simp at hev
    obtain ⟨ρ1, obs1⟩ := x
    simp only at hev
    obtain ⟨e1, rfl⟩ := hev
    simp only [mixB2, Bool.and_eq_true, decide_eq_true_eq] at hB
    obtain ⟨⟨hsel, hlen⟩, hheads⟩ := hB
    refine Go.Code.wpIn_mono (Q := noPanic Q) (fun e a w h => by cases e <;> first | exact h | exact h.elim) ?_
    refine regionR_any hfol (wpAny_of_G (S := fun w' => Sep w0 B w' ps) (eff := fun j => ts.contains j && !isAlc l.toArray j) _ _ _ _ ?_)
    have hcl : Closed l.toArray (Array.replicate l.toArray.size false) := by
      intro j o _ hl
      rcases Nat.lt_or_ge j l.length with h | h <;> simp [h] at hl
    rw [← hlen] at hcl hheads ⊢
    refine anyG_headsA (fun w c h => h.ex0 (Ex.of_grown (World.grownBy_alloc w c none))) hsel (fun c a w h => h) (by simpa using ht) hs (sel? l hs) _ a _ (by simpa using hh) hcl hheads hS.drew ?_
    exact evR_q (P := P) (ops := l.toArray) (C := fun w' => Sep w0 B w' ps) (x := true) (sel? l hs) orc ρ ρ1 _ a hx hdst hob hF fun a' hF' => hK a' _ (hF'.weak sl e1) hS.drew
end Go.GL
