/-
  A small library of our own: a stretch of a region that draws its order, in which one operation at a time is ready (or copies beside it).
-/
import Derived.Test.YtlkdblflibgfpaaLibV
namespace Go.GL
open Go Go.RowKit
variable {Ds : List Nat} {ro : Option Nat}

def runT (ops : Array Oper) : List Nat → Array Bool → Array Bool → Bool
  | [], listed, l1 => decide (listed = l1)
  | k :: r, listed, l1 => (decide (Region.ready .any ops listed = [k]) || ((Region.ready .any ops listed).contains k && Region.free .any ops listed k && isTriv ops k)) && runT ops r (listed.setIfInBounds k true) l1

section
variable {P : Program} {ops : Array Oper} {Q : Exit → Act → World → Prop} {S : World → Prop}

theorem anyG_runT (hsel : Region.noSelect ops = true) (hQ : ∀ c a w, ¬ Q (.panic c) a w) {es : List Nat} {l1 : Array Bool} {m : Nat} : ∀ (ts : List Nat) (lt : List Oper) (listed : Array Bool) (a : Act) (w : World), ts.map (ops[·]?) = lt.map some → (∀ t ∈ ts, es.contains t = true) → runT ops ts listed l1 = true →
    listR P ops (keepK (fun a w => wpAnyG P ops Q S (effT es) m l1 a w) Q) lt a w → wpAnyG P ops Q S (effT es) (ts.length + m) listed a w
  | [], [], listed, a, w, _, _, hB, h => by
    rw [List.length_nil, Nat.zero_add]
    simp only [runT, decide_eq_true_eq] at hB
    rw [hB]
    exact h
  | [], _ :: _, _, _, _, hm, _, _, _ => by simp at hm
  | _ :: _, [], _, _, _, hm, _, _, _ => by simp at hm
  | k :: ts, o :: lt, listed, a, w, hm, he, hB, h => by
    simp only [List.map_cons, List.cons.injEq] at hm
    simp only [runT, Bool.and_eq_true, Bool.or_eq_true, decide_eq_true_eq] at hB
    obtain ⟨hk, hB2⟩ := hB
    have ek : (k :: ts).length + m = (ts.length + m) + 1 := by rw [List.length_cons]; omega
    rw [ek]
    have ih := fun a' w' (h' : listR P ops (keepK (fun a w => wpAnyG P ops Q S (effT es) m l1 a w) Q) lt a' w') => anyG_runT hsel hQ ts lt (listed.setIfInBounds k true) a' w' hm.2 (fun t ht => he t (by simp [ht])) hB2 h'
    have he0 : effT es k = true := he k (by simp)
    rcases hk with hk | ⟨⟨hr, hf⟩, ht⟩
    · refine ⟨fun h0 => (by rw [hk] at h0; cases h0), fun i hi => ?_⟩
      rw [hk] at hi
      obtain rfl : i = k := by simpa using hi
      unfold opR
      simp only [hm.1]
      unfold listR at h
      split
      · rename_i hw
        rw [if_pos hw] at h
        exact oR_mono (fun a' w' h' => ⟨fun h0 => (by rw [he0] at h0; cases h0), ih a' w' h'⟩) h
      · rename_i hw
        rw [if_neg hw] at h
        exact ⟨fun _ hs => hs, ih _ _ h⟩
    · have hr' : k ∈ Region.ready .any ops listed := by simpa using hr
      unfold isTriv at ht
      rw [hm.1] at ht
      have hQ' : ∀ v, ∀ c a w, Q (.panic c) (a.put o.dst v) w → Q (.panic c) a w := fun v c a w hx => absurd hx (hQ _ _ _)
      unfold listR at h
      by_cases hw : Region.wanted o (yielded ops a.tmps) = true
      · rw [if_pos hw] at h
        unfold oR at h
        cases hrun : (execOp a.eval o).run P w with
        | ok nx w1 =>
          obtain ⟨v, rfl, rfl, hall⟩ := triv_run ht hrun
          rw [hrun] at h
          simp only [upR] at h
          have hy : YieldsIf P ops (fun _ => True) o v a := .inl ⟨hw, fun w2 _ => hall w2⟩
          exact wpAnyG_free hm.1 (Region.noSelect_spec hsel) (hQ' v) _ listed a w1 (Region.free_spec hm.1 hf) hr' hy (ih _ _ h)
        | halt x w1 =>
          rw [hrun] at h
          exact h.elim
      · rw [if_neg hw] at h
        have hy : YieldsIf P ops (fun _ => True) o undef a := .inr ⟨by simpa using hw, rfl⟩
        exact wpAnyG_free hm.1 (Region.noSelect_spec hsel) (hQ' undef) _ listed a w (Region.free_spec hm.1 hf) hr' hy (ih _ _ h)
end

/-- A stretch 'ts' in its one order. -/
theorem any_run {P : Program} {Q : Exit → Act → World → Prop} {S : World → Prop} {l : List Oper} {a : Act} {w : World} {es : List Nat} {f m : Nat} {listed : Array Bool} (ts : List Nat) (l1 : Array Bool)
    (hB : (Region.noSelect l.toArray && runT l.toArray ts listed l1 && ts.all es.contains && decide (f = ts.length + m)) = true) (ht : ts.map (l[·]?) = (sel? l ts).map some)
    (h : wpAt P l.toArray (sel? l ts) (keepK (fun a w => wpAnyG P l.toArray (noPanic Q) S (effT es) m l1 a w) (noPanic Q)) 0 a w) : wpAnyG P l.toArray (noPanic Q) S (effT es) f listed a w := by
  simp only [Bool.and_eq_true, decide_eq_true_eq, List.all_eq_true] at hB
  obtain ⟨⟨⟨h1, h2⟩, h3⟩, rfl⟩ := hB
  exact anyG_runT h1 (fun c a w h => h) ts (sel? l ts) listed a w (by simpa using ht) h3 h2 h
end Go.GL
