import Derived.Test.YtkpkkdpfcbnfdaaLibAM
namespace Go.GL
open Go Go.RowKit
variable {Ds : List Nat} {ro : Option Nat}
section
variable {K V : Type} [DecidableEq K] {P : Program} {kt : TypeId} {kf : K → Value} {vf : V → Value}
def mapHV (kf : K → Value) (vf : V → Value) (b : Nat) (m : List (K × V)) (k : K) (s : Nat) (v0 : V) : HP where
 at_ w f := (∃ es clock, w.heap[b]? = some (.map es clock) ∧ stampedB es.toList clock ∧ ∃ j e, es.toList[j]? = some e ∧ e.born = s ∧ e.key = kf k ∧ e.val = vf v0 ∧ ∀ (v : V) (e' : MapEntry), e'.key = kf k → e'.val = vf v → ER kf vf (es.toList.set j e') (mput k v m)) ∧ f = [b]
 loc := by
  rintro w w' f hk ⟨⟨es, clock, h, r⟩, rfl⟩
  exact ⟨⟨es, clock, (hk b (by simp)).trans h, r⟩, rfl⟩
variable {w0 w : World} {B : Nat} {l r : List HP} {t et : TypeId} {b : Nat} {m : List (K × V)} {C : World → Prop}
theorem run_mentryV (M : MKey P kt kf) (ht : P.underlying t = some (.map kt et)) {z : V} (hz : ∀ w, (zeroValue et).run P w = .ok (vf z) w) (k : K) (hS : Sep w0 B w (l ++ mapH kf vf b m :: r)) :
  ∃ s w', (vS (Instr.mapEntry t (.map (some b)) (kf k))).run P w = .ok (.value (.tuple #[vf (mget z k m), .int .i64 ((s : Nat) : Int)])) w' ∧ Sep w0 B w' (l ++ mapHV kf vf b m k s (mget z k m) :: r) := by
 obtain ⟨f, ⟨⟨es, clock, hb, hE, hs⟩, _⟩, _⟩ := hS.get
 have hf := findKey_run M k w hE
 rcases mfind_cases (vf := vf) k z es.toList m 0 hE with ⟨h1, h2, h3, h4⟩ | ⟨j, e, h1, h2, h3, h4, h6, h5⟩
 ·rw [h1] at hf
  refine ⟨clock, { w with heap := w.heap.setIfInBounds b (.map (es.push ⟨kf k, vf z, clock⟩) (clock + 1)) }, vS_run ?_, ?_⟩
  ·rw [h3]
   simp [Instr.mapEntry, run_underlying ht, MapKept.run_getObj_map hb, M.chk, hf, hz, MapKept.run_setObj_map _ hb, Result.andThen, goInt]
  ·refine Sep.mapTurn hS hb (fun f hf => hf.2) ⟨⟨_, _, ChangeMaps.heap_setBlock_same hb _, ?_, es.size, ⟨kf k, vf z, clock⟩, ?_, rfl, rfl, congrArg vf h3.symm, fun v e' k1 k2 => ?_⟩, rfl⟩
   ·rw [Array.toList_push]; exact stamped_snoc hs rfl
   ·simp
   ·have := h4 v e' k1 k2
    rw [Array.toList_push, ← Array.length_toList, List.set_append]
    simpa using this
 ·rw [h1, Nat.zero_add] at hf
  have hj : es[j]? = some e := by simpa using h3
  have hlist : (es.modify j (fun e' => { e' with key := kf k })).toList = es.toList.set j { e with key := kf k } := by rw [Array.toList_modify, ChangeMaps.modify_eq_set _ _ _ _ h3]
  refine ⟨e.born, { w with heap := w.heap.setIfInBounds b (.map (es.modify j (fun e' => { e' with key := kf k })) clock) }, vS_run ?_, ?_⟩
  ·simp [Instr.mapEntry, run_underlying ht, MapKept.run_getObj_map hb, M.chk, hf, hj, h4, M.stay, MapKept.run_setObj_map _ hb, Result.andThen, goInt]
  ·refine Sep.mapTurn hS hb (fun f hf => hf.2) ⟨⟨_, _, ChangeMaps.heap_setBlock_same hb _, ?_, j, { e with key := kf k }, ?_, rfl, rfl, h6, fun v e' k1 k2 => ?_⟩, rfl⟩
   ·rw [hlist]; exact stamped_set hs h3 rfl
   ·rw [hlist, List.getElem?_set, if_pos rfl, if_pos (List.getElem?_eq_some_iff.1 h3).1]
   ·rw [hlist, List.set_set]; exact h5 v e' k1 k2
theorem Sep.toHE {k : K} {s : Nat} {v0 : V} (hS : Sep w0 B w (l ++ mapHV kf vf b m k s v0 :: r)) : Sep w0 B w (l ++ mapHE kf vf b m k s :: r) :=
 hS.upd fun f ⟨⟨es, clock, h1, h2, j, e, h3, h4, h5, _, h6⟩, hf⟩ hb => ⟨f, ⟨⟨es, clock, h1, h2, j, e, h3, h4, h5, h6⟩, hf⟩, (Ex.refl w).mono (fun k hk => by simp at hk), fun _ h => Or.inl h, fun k hk => (hb k hk).2⟩
theorem Sep.toH {k : K} {s : Nat} {v0 : V} (hS : Sep w0 B w (l ++ mapHV kf vf b m k s v0 :: r)) : Sep w0 B w (l ++ mapH kf vf b (mput k v0 m) :: r) :=
 hS.upd fun f ⟨⟨es, clock, h1, h2, j, e, h3, h4, h5, h7, h6⟩, hf⟩ hb => ⟨f, ⟨⟨es, clock, h1, by
  have := h6 v0 e h5 h7
  have e1 : es.toList.set j e = es.toList := by
   apply List.ext_getElem?
   intro i
   rw [List.getElem?_set]
   by_cases q : j = i
   ·subst q
    rw [if_pos rfl, if_pos (List.getElem?_eq_some_iff.1 h3).1, h3]
   ·rw [if_neg q]
  rwa [e1] at this, h2⟩, hf⟩, (Ex.refl w).mono (fun k hk => by simp at hk), fun _ h => Or.inl h, fun k hk => (hb k hk).2⟩
theorem run_mstoreV {s : Nat} {v0 : V} (k : K) (v : V) (hS : Sep w0 B w (l ++ mapHV kf vf b m k s v0 :: r)) :
  ∃ w', (uS (Instr.entryStore t (.map (some b)) (.int .i64 (s : Int)) (vf v))).run P w = .ok .skip w' ∧ Sep w0 B w' (l ++ mapH kf vf b (mput k v m) :: r) :=
 run_mstore k v hS.toHE
theorem ob_lookV (M : MKey P kt kf) (ht : P.underlying t = some (.map kt et)) {z : V} (hz : ∀ w, (zeroValue et).run P w = .ok (vf z) w) {k : K} {x : Bool} {hyps : List (Bool × Bool)}
  (h : ∀ w, C w → ∃ w0 B l r s, Sep w0 B w (l ++ mapHV kf vf b m k s (mget z k m) :: r)) : Ob.holds P C x ⟨false, hyps, vS (Instr.lookup t (.map (some b)) (kf k) false), vf (mget z k m)⟩ :=
 Ob.same fun _ w hw => by
  obtain ⟨w0, B, l, r, s, hS⟩ := h w hw
  have := run_look M ht hz false k hS.toH
  rw [mget_mput, if_pos rfl] at this
  exact this
end
end Go.GL
