/-
  A small library of our own: the statement 'for .. := range f { .. }' over objects of the call's own: the loop's record, the block for deferred calls and the round's state are objects among others.
-/
import Derived.Test.YtdbdcbejmbpbmaaDoorLibW
namespace Go.GL
open Go Go.RowKit
variable {Ds : List Nat} {ro : Option Nat}

def recH (l : Nat) (r : Loop) : HP where
  at_ w f := w.heap[l]? = some (.loop r) ∧ f = [l]
  loc := by
    rintro w w' f hk ⟨h, rfl⟩
    exact ⟨(hk l (by simp)).trans h, rfl⟩

def defsH (Ds : List Nat) : HP where
  at_ w f := (∀ D ∈ Ds, w.heap[D]? = some (.deferred (some []))) ∧ f = Ds ∧ Ds.Nodup
  loc := by
    rintro w w' f hk ⟨h, rfl, hn⟩
    exact ⟨fun D hD => (hk D hD).trans (h D hD), rfl, hn⟩

/-- What a round works on, seen from an iterator. -/
def stateH {S : Type} (RS : S → List HP → Prop) (s : S) : HP where
  at_ w f := ∃ qs, RS s qs ∧ SepL w qs f
  loc := by
    rintro w w' f hk ⟨qs, h1, h2⟩
    exact ⟨qs, h1, h2.loc hk⟩

section
variable {w0 w w' : World} {B : Nat} {p q : HP} {ps qs us fs : List HP} {S : Type} {RS : S → List HP → Prop} {s : S}

theorem SepL.split : ∀ {ps : List HP} {u : List Nat}, SepL w (ps ++ qs) u → ∃ u1 u2, SepL w ps u1 ∧ SepL w qs u2 ∧ (∀ k ∈ u1, k ∉ u2) ∧ ∀ k, k ∈ u ↔ k ∈ u1 ∨ k ∈ u2
  | [], u, h => ⟨[], u, .nil, h, by simp, by simp⟩
  | p :: ps, _, h => by
    cases h with
    | cons hp hs hd =>
      rename_i f u
      obtain ⟨u1, u2, h1, h2, h3, h4⟩ := SepL.split hs
      refine ⟨f ++ u1, u2, .cons hp h1 (fun k hk hk' => hd k hk ((h4 k).2 (.inl hk'))), h2, fun k hk hk' => ?_, fun k => ?_⟩
      · rcases List.mem_append.1 hk with h | h
        · exact hd k h ((h4 k).2 (.inr hk'))
        · exact h3 k h hk'
      · simp only [List.mem_append, h4, or_assoc]

theorem Sep.comm (h : Sep w0 B w (ps ++ qs)) : Sep w0 B w (qs ++ ps) := by
  obtain ⟨u, hs, hu⟩ := h.ex
  obtain ⟨u1, u2, h1, h2, h3, h4⟩ := hs.split
  obtain ⟨z, hz, hm⟩ := SepL.append h2 h1 (fun k hk hk' => h3 k hk' hk)
  exact ⟨h.base, h.below, z, hz, fun k hk => hu k ((h4 k).2 ((hm k).1 hk).symm)⟩

theorem Sep.pack (hr : RS s qs) (h : Sep w0 B w (qs ++ fs)) : Sep w0 B w (stateH RS s :: fs) := by
  obtain ⟨u, hs, hu⟩ := h.ex
  obtain ⟨u1, u2, h1, h2, h3, h4⟩ := hs.split
  exact ⟨h.base, h.below, u1 ++ u2, .cons ⟨qs, hr, h1⟩ h2 h3, fun k hk => hu k ((h4 k).2 (by simpa using hk))⟩

theorem Sep.unpack (h : Sep w0 B w (stateH RS s :: fs)) : ∃ qs, RS s qs ∧ Sep w0 B w (qs ++ fs) := by
  obtain ⟨u, hs, hu⟩ := h.ex
  cases hs with
  | cons hp h2 hd =>
    obtain ⟨qs, hr, h1⟩ := hp
    obtain ⟨z, hz, hm⟩ := SepL.append h1 h2 hd
    exact ⟨qs, hr, h.base, h.below, z, hz, fun k hk => hu k (by simpa using (hm k).1 hk)⟩

/-- An iterator's own objects go behind, and come back. -/
theorem Sep.rot (h : Sep w0 B w (us ++ p :: fs)) : Sep w0 B w (p :: (fs ++ us)) := h.comm
theorem Sep.unrot (h : Sep w0 B w (p :: (fs ++ us))) : Sep w0 B w (us ++ p :: fs) := Sep.comm (ps := p :: fs) h

theorem Sep.recGet {l : Nat} {r : Loop} (h : Sep w0 B w (recH l r :: ps)) : w.heap[l]? = some (.loop r) := by
  obtain ⟨f, hf, _⟩ := Sep.get (l := []) h
  exact hf.1

theorem Sep.recSet {l : Nat} {r : Loop} (h : Sep w0 B w (recH l r :: ps)) (r' : Loop) : Sep w0 B (w.putObj l (.loop r')) (recH l r' :: ps) := by
  refine Sep.upd (l := []) (p' := recH l r') h fun f hf hb => ⟨[l], ⟨World.putObj_heap_same (Array.getElem?_eq_some_iff.1 hf.1).1, rfl⟩, ?_, fun k hk => .inl (by rw [hf.2]; exact hk), fun k hk => ?_⟩
  · rw [hf.2]
    exact Ex.of_grown (grownBy_putObj' w l _)
  · have := hb k (by rw [hf.2]; exact hk)
    simpa using this.2

theorem Sep.recNew (h : Sep w0 B w ps) (r : Loop) : Sep w0 B (w.alloc (.loop r)) (recH w.heap.size r :: ps) := by
  refine h.add (by simpa using Ex.of_grown (World.grownBy_alloc w _ none)) (f := [w.heap.size]) ⟨World.alloc_heap_new w _, rfl⟩ fun k hk => ?_
  simp at hk
  subst hk
  simp

theorem Sep.defsNew (h : Sep w0 B w (defsH Ds :: ps)) : Sep w0 B (w.alloc (.deferred (some []))) (defsH (w.heap.size :: Ds) :: ps) := by
  refine Sep.upd (l := []) (p' := defsH (w.heap.size :: Ds)) h fun f hf hb => ⟨w.heap.size :: Ds, ⟨fun D hD => ?_, rfl, ?_⟩, ?_, fun k hk => ?_, fun k hk => ?_⟩
  · rcases List.mem_cons.1 hD with rfl | hD
    · exact World.alloc_heap_new w _
    · exact (Below.heap_alloc _ _ _ (hb D (hf.2.1 ▸ hD)).2).trans (hf.1 D hD)
  · refine List.nodup_cons.2 ⟨fun hm => ?_, hf.2.2⟩
    have := (hb _ (hf.2.1 ▸ hm)).2
    omega
  · exact (by simpa using Ex.of_grown (World.grownBy_alloc w (.deferred (some [])) none) : Ex [] w _).mono (by simp)
  · rcases List.mem_cons.1 hk with rfl | hk
    · exact .inr (Nat.le_refl _)
    · exact .inl (hf.2.1 ▸ hk)
  · rcases List.mem_cons.1 hk with rfl | hk
    · simp
    · have := (hb k (hf.2.1 ▸ hk)).2
      simp; omega

theorem Sep.defs0 (h : Sep w0 B w ps) : Sep w0 B w (defsH [] :: ps) := by
  obtain ⟨u, hs, hu⟩ := h.ex
  exact ⟨h.base, h.below, [] ++ u, .cons ⟨by simp, rfl, List.nodup_nil⟩ hs (by simp), by simpa using hu⟩
end

/-! ### What is asked of a round, and of an iterator -/
def YieldC (P : Program) (w0 : World) (B l : Nat) {S X : Type} (enc : X → Array Value) (RS : S → List HP → Prop) (yd : X → S → Option (S × Bool)) (fs : List HP) : Prop :=
  ∀ (us : List HP) (x : X) (s : S) (r : S × Bool) (w : World), yd x s = some r → Sep w0 B w (stateH RS s :: (fs ++ us)) →
    YieldAt Fence.wide 8 P l (enc x) w (retOnly fun v w' => v = .bool r.2 ∧ Sep w0 B w' (stateH RS r.1 :: (fs ++ us)))

theorem YieldC.perm {P : Program} {w0 : World} {B l : Nat} {S X : Type} {enc : X → Array Value} {RS : S → List HP → Prop} {yd : X → S → Option (S × Bool)} {fs : List HP} (fs' : List HP) (h : YieldC P w0 B l enc RS yd fs)
    (h1 : ∀ {w : World} {s : S} {us : List HP}, Sep w0 B w (stateH RS s :: (fs' ++ us)) → Sep w0 B w (stateH RS s :: (fs ++ us))) (h2 : ∀ {w : World} {s : S} {us : List HP}, Sep w0 B w (stateH RS s :: (fs ++ us)) → Sep w0 B w (stateH RS s :: (fs' ++ us))) : YieldC P w0 B l enc RS yd fs' :=
  fun us x s r w hy hS => by
    obtain ⟨fn, tmps, assign, body, hyr, hR⟩ := h us x s r w hy (h1 hS)
    exact ⟨fn, tmps, assign, body, hyr, RoundIn.mono hR (retOnly_mono fun _ _ hv => ⟨hv.1, h2 hv.2⟩)⟩

def ydOf {S R X : Type} (L : X → S → Option (St S R)) (x : X) (σ : St S R) : Option (St S R × Bool) :=
  match σ with
  | .next s => (L x s).bind fun o => match o with
    | .next s' => some (.next s', true)
    | .done r => some (.done r, false)
  | .done _ => none

section
variable {P : Program} {Q : Exit → Act → World → Prop} {a : Act} {w0 w : World} {B n : Nat} {ρ : Env} {ps : List HP}

theorem at_yield {arr : Array Oper} {l : List Oper} {k d lv : Nat} {args : Array Value} {R : Value → World → Prop} (hF : FrD Ds n ρ a) (hex : stepOf l k ρ = some (some d, Instr.yield lv args)) (hcl : (ρ.clear d && decide (d < n)) = true)
    (hc : YieldAt Fence.wide 8 P lv args w (retOnly R))
    (hK : ∀ v a' w', R v w' → FrD Ds n (ρ.put (some d) [] v) a' → wpAt P arr l Q (k + 1) a' w') : wpAt P arr l Q k a w := by
  obtain ⟨o, h1, h2, h3, h4, h5⟩ := stepOf_some hex
  simp only [Bool.and_eq_true, decide_eq_true_eq] at hcl
  unfold wpAt
  rw [h1]
  refine listR_plain h2 fun K hk => ?_
  unfold oR
  obtain ⟨fn, tmps, assign, body, hy, hR⟩ := hc
  rw [execOp_env hF (fun g hg => by cases hg) h3, h5, hy]
  refine RoundIn.mono hR (retOnly_mono fun v w' hv => ?_)
  refine hk _ _ (hK v _ _ hv ?_)
  rw [h4]
  exact hF.put hcl.2 hcl.1 (fun g hg => by cases hg) (fun _ => rfl) (fun h => absurd (fun g hg => by cases hg) h)

theorem wpIn_fuel {c : Code} {m : Nat} (h : c.wpIn (RF ro) 9 P Q a w) : c.wpIn (RF ro) m P Q a w := fun b k cs hro hb _ => h b k cs hro hb (room_RF ro _)

/-- The frame of a round: the loop's own slots as they were, the round's values put in. -/
def putsE (ρ : Env) : List (Nat × Value) → Env
  | [] => ρ
  | (t, v) :: r => putsE (ρ.put (some t) [] v) r

theorem clear_all {ρ : Env} (h : ρ.all (fun e => e.gs.isEmpty) = true) (d : Nat) : ρ.clear d = true := by
  unfold Env.clear
  rw [List.all_eq_true] at h ⊢
  intro e he
  have := List.isEmpty_iff.1 (h e he)
  rw [this]; rfl

theorem all_put {ρ : Env} (h : ρ.all (fun e => e.gs.isEmpty) = true) (t : Nat) (v : Value) : (ρ.put (some t) [] v).all (fun e => e.gs.isEmpty) = true := by
  rw [List.all_eq_true] at h ⊢
  intro e he
  unfold Env.put at he
  rcases List.mem_cons.1 he with rfl | he
  · rfl
  · refine h e ?_
    clear h
    induction ρ with
    | nil => cases he
    | cons x r ih =>
      unfold Env.drop at he
      split at he
      · exact List.mem_cons_of_mem _ (ih (List.mem_cons_of_mem _ he) he)
      · rcases List.mem_cons.1 he with rfl | he
        · simp
        · exact List.mem_cons_of_mem _ (ih (List.mem_cons_of_mem _ he) he)

theorem FrD.puts : ∀ (l : List (Nat × Value)) (ρ : Env) (a : Act), FrD Ds n ρ a → ρ.all (fun e => e.gs.isEmpty) = true → (∀ p ∈ l, p.1 < n) →
    FrD Ds n (putsE ρ l) { tmps := l.foldl (fun t p => t.setIfInBounds p.1 p.2) a.tmps, defers := a.defers }
  | [], _, _, h, _, _ => h
  | (t, v) :: l, ρ, a, h, hg, hl => by
    have h1 : FrD Ds n (ρ.put (some t) [] v) (a.put (some t) v) := h.put (hl (t, v) (by simp)) (clear_all hg t) (by simp) (fun _ => rfl) (fun h => absurd (fun g hg => by cases hg) h)
    exact FrD.puts l _ _ h1 (all_put hg t v) (fun p hp => hl p (by simp [hp]))

theorem FrD.bare {Es : List Nat} (h : FrD Ds n ρ a) : FrD Es n ρ { a with defers := Es.map fun D => { target := .collected D, args := #[] } } := ⟨h.size, rfl, h.ent⟩

/-- Behind the assignments to the loop's left sides. -/
def beginK (P : Program) (l : Nat) (body : Code) (Q : Exit → Act → World → Prop) (a : Act) (w : World) : Prop := ∃ w2, (Instr.beginRound l).run P w = .ok () w2 ∧ body.wpIn (RF (some l)) 9 P Q a w2
theorem begin_r {l : Nat} {r : Loop} {body : Code} (hS : Sep w0 B w (recH l r :: ps)) (hr : r.state = .ready) (h : ∀ w', Sep w0 B w' (recH l { r with state := .busy } :: ps) → body.wpIn (RF (some l)) 9 P Q a w') : beginK P l body Q a w :=
  ⟨_, run_beginRound hS.recGet hr, h _ (hS.recSet _)⟩
def noX : Exit → Act → World → Prop := fun _ _ _ => False

/-- How a round may be left. -/
def roundQ {S R : Type} (l : Nat) (It : S → List HP → Prop) (Ox : R → Code → List HP → Prop) (o : St S R) (r : Loop) (w0 : World) (B : Nat) (fr : List HP) : Exit → Act → World → Prop
  | .normal, _, w => ∃ s qs, o = .next s ∧ It s qs ∧ Sep w0 B w (recH l r :: (qs ++ fr))
  | .ret, _, w => ∃ x qs, o = .done x ∧ Ox x .ret qs ∧ Sep w0 B w (recH l r :: (qs ++ fr))
  | .exit id, _, w => ∃ x qs, o = .done x ∧ Ox x (.exit id) qs ∧ Sep w0 B w (recH l r :: (qs ++ fr))
  | _, _, _ => False

/-- The round's state: the loop's record and what the round works on. -/
def roundS {S R : Type} (l : Nat) (It : S → List HP → Prop) (Ox : R → Code → List HP → Prop) (r : Loop) : St S R → List HP → Prop
  | .next s, qs => ∃ q, It s q ∧ qs = recH l { r with state := .ready, pending := none } :: q
  | .done x, qs => ∃ c q, Ox x c q ∧ qs = recH l { r with state := .done, pending := some c } :: q

/-- The record of a loop. -/
def recOf (fn : FuncId) (tmps : Array Value) (ps : Array Tmp) (assign body : Code) (D : Nat) : Loop := { state := .ready, pending := none, fn := fn, tmps := tmps, params := ps, assign := assign, body := body, defers := D }

/-- One round's contract out of its body's walk. -/
theorem yield_of {S R X : Type} {fn : FuncId} {ps' : Array Tmp} {assign body : Code} {D l : Nat} {enc : X → Array Value} (pv : X → List (Nat × Value)) {It : S → List HP → Prop} {Ox : R → Code → List HP → Prop} {L : X → S → Option (St S R)} {fs : List HP}
    (hF : FrD Ds n ρ a) (hg : ρ.all (fun e => e.gs.isEmpty) = true) (hpv : ∀ x, (ps'.zip (enc x)).toList = pv x) (hps : ∀ x, (enc x).size = ps'.size) (hlt : ∀ x, ∀ p ∈ pv x, p.1 < n)
    (hbody : ∀ (r : Loop) (x : X) (s : S) (o : St S R) (qs us : List HP) (a' : Act) (w : World), r.state = .ready → L x s = some o → It s qs → FrD [] n (putsE ρ (pv x)) a' → Sep w0 B w (recH l r :: (qs ++ (fs ++ us))) →
      assign.wpIn (RF (some l)) 9 P (Exit.then (beginK P l body (roundQ l It Ox o { r with state := .busy } w0 B (fs ++ us))) noX) a' w) :
    YieldC P w0 B l enc (roundS l It Ox (recOf fn a.tmps ps' assign body D)) (ydOf L) fs := by
  intro us x σ r w hyd hS
  obtain ⟨qs, hrs, hS⟩ := hS.unpack
  cases σ with
  | done x => cases hyd
  | next s =>
    obtain ⟨q, hq, rfl⟩ := hrs
    simp only [ydOf] at hyd
    cases ho : L x s with
    | none => rw [ho] at hyd; cases hyd
    | some o =>
      rw [ho] at hyd
      have hl := Sep.recGet hS
      have hy := run_yield (P := P) (args := enc x) hl (by simpa [recOf] using hps x)
      refine ⟨fn, _, assign, body, hy, roundIn_of_wpIn trivial ?_⟩
      have e1 : (ps'.zip (enc x)).foldl (fun t (p : Nat × Value) => t.setIfInBounds p.1 p.2) a.tmps = (pv x).foldl (fun t p => t.setIfInBounds p.1 p.2) a.tmps := by rw [← hpv x, Array.foldl_toList]
      have hF' := (FrD.puts (pv x) ρ _ hF hg (hlt x)).bare (Es := [])
      have hb := hbody _ x s o q us _ w rfl ho hq hF' hS
      refine wpIn_fuel (ro := some l) ?_
      have e2 : (Array.foldl (fun tmps (x : Nat × Value) => tmps.setIfInBounds x.1 x.2) a.tmps (ps'.zip (enc x))) = (pv x).foldl (fun t p => t.setIfInBounds p.1 p.2) a.tmps := e1
      refine wpIn_mono (Q := Exit.then (beginK P l body (roundQ l It Ox o { recOf fn a.tmps ps' assign body D with state := .busy } w0 B (fs ++ us))) noX) ?_ ?_
      · have : (Array.foldl (fun tmps (x : Nat × Value) => match x with | (t, a) => tmps.setIfInBounds t a) a.tmps (ps'.zip (enc x))) = (pv x).foldl (fun t p => t.setIfInBounds p.1 p.2) a.tmps := e1
        show assign.wpIn (RF (some l)) 9 P _ { tmps := Array.foldl (fun tmps (x : Nat × Value) => match x with | (t, a) => tmps.setIfInBounds t a) a.tmps (ps'.zip (enc x)), defers := [] } w
        rw [this]
        exact hb
      · intro e a1 w1 h1
        cases e with
        | normal =>
          obtain ⟨w2, hbr, hbo⟩ := h1
          refine ⟨w2, hbr, wpIn_fuel (ro := some l) (wpIn_mono hbo ?_)⟩
          intro e a2 w3 h3
          cases e with
          | normal =>
            obtain ⟨s', qs, rfl, hi, hS3⟩ := h3
            obtain rfl := Option.some.inj hyd
            refine ⟨_, _, run_endRound none hS3.recGet, rfl, ?_⟩
            exact Sep.pack (RS := roundS l It Ox (recOf fn a.tmps ps' assign body D)) (s := .next s') ⟨qs, hi, rfl⟩ (Sep.recSet hS3 _)
          | ret =>
            obtain ⟨y, qs, rfl, hi, hS3⟩ := h3
            obtain rfl := Option.some.inj hyd
            refine ⟨_, _, run_endRound (some .ret) hS3.recGet, rfl, ?_⟩
            exact Sep.pack (RS := roundS l It Ox (recOf fn a.tmps ps' assign body D)) (s := .done y) ⟨.ret, qs, hi, rfl⟩ (Sep.recSet hS3 _)
          | exit id =>
            obtain ⟨y, qs, rfl, hi, hS3⟩ := h3
            obtain rfl := Option.some.inj hyd
            refine ⟨_, _, run_endRound (some (.exit id)) hS3.recGet, rfl, ?_⟩
            exact Sep.pack (RS := roundS l It Ox (recOf fn a.tmps ps' assign body D)) (s := .done y) ⟨.exit id, qs, hi, rfl⟩ (Sep.recSet hS3 _)
          | goto t => exact h3.elim
          | panic c => exact h3.elim
          | outgrown => exact h3.elim
        | ret => exact h1.elim
        | exit id => exact h1.elim
        | goto t => exact h1.elim
        | panic c => exact h1.elim
        | outgrown => exact h1.elim

theorem run_callF {f : FuncId} {fn : Func} (hf : P.funcs[f]? = some fn) (hname : (fn.name == "runtime.NumGoroutine") = false) (hb : fn.body.isSome = true) (args : Array Value) (w : World) : (callFunc f args).run P w = .ok (.enter f args) w := run_enter hf hname hb args w

end
/-! ### Leaving a function that has ranged over functions -/
section
variable {P : Program} {fn : Func} {R : Ending → World → Prop} {a : Act} {w0 w : World} {B n : Nat} {ρ : Env} {qs : List HP}

theorem results_run {rs : List ResultVar} {vs : List Value} (hF : FrD Ds n ρ a) (hr : fn.results = rs.toArray) (h : RVals P ρ w rs vs) : (results fn a.tmps).run P w = .ok (tupOf vs) w := by
  have key : ∀ (rs : List ResultVar) (vs : List Value), RVals P ρ w rs vs → (rs.mapM (resF a.tmps)).run P w = .ok vs w := by
    intro rs
    induction rs with
    | nil => intro vs h; cases vs with
      | nil => rfl
      | cons v vs => exact h.elim
    | cons r rs ih =>
      intro vs h
      cases vs with
      | nil => exact h.elim
      | cons v vs =>
        have h2 := ih vs h.2
        have h1 := h.1
        have h3 : (resF a.tmps r).run P w = .ok v w := by
          cases r with
          | tmp t =>
            have := hF.getD h1
            show (pure (a.tmps.getD t undef) : Sem Value).run P w = _
            rw [this]
            rfl
          | cell x t =>
            obtain ⟨ad, hx, hl⟩ := h1
            have := hF.getD hx
            show (do loadVar t (← asAddr (a.tmps.getD x undef)) : Sem Value).run P w = _
            rw [this, Sem.run_bind]
            exact hl
        rw [List.mapM_cons, Sem.run_bind, h3, Result.andThen_ok, Sem.run_bind, h2]
        rfl
  rw [results_eq, hr, List.mapM_toArray, Sem.run_bind, Sem.run_map, key rs vs h]
  match vs with
  | [] => rfl
  | [v] => rfl
  | _ :: _ :: _ => rfl

theorem Sep.defsTake {D : Nat} (h : Sep w0 B w (defsH (D :: Ds) :: qs)) (o : Obj) : Sep w0 B (w.putObj D o) (defsH Ds :: qs) := by
  refine Sep.upd (l := []) (p' := defsH Ds) h fun f hf hb => ⟨Ds, ⟨fun E hE => ?_, rfl, (List.nodup_cons.1 hf.2.2).2⟩, ?_, fun k hk => .inl (by rw [hf.2.1]; exact List.mem_cons_of_mem _ hk), fun k hk => ?_⟩
  · have hne : E ≠ D := fun e => (List.nodup_cons.1 hf.2.2).1 (e ▸ hE)
    exact (World.putObj_heap_other hne).trans (hf.1 E (List.mem_cons_of_mem _ hE))
  · exact (Ex.of_grown (grownBy_putObj' w D o)).mono (fun k hk => by simp at hk; rw [hf.2.1, hk]; simp)
  · have := (hb k (by rw [hf.2.1]; exact List.mem_cons_of_mem _ hk)).2
    simpa using this

theorem leaveD {rs : List ResultVar} {vs : List Value} {V : Value} (hF : FrD Ds n ρ a) (hS : Sep w0 B w (defsH Ds :: qs)) (hr : fn.results = rs.toArray) (h : ∀ w, Sep w0 B w qs → RVals P ρ w rs vs) (hV : tupOf vs = V)
    (hR : ∀ w, Sep w0 B w qs → R (.returned V) w) : LeavesInM Fence.wide 9 P fn a.tmps R a.defers .returning w := by
  rw [hF.defers]
  have key : ∀ (Es : List Nat) (w : World), Sep w0 B w (defsH Es :: qs) → LeavesInM Fence.wide 9 P fn a.tmps R (Es.map fun D => { target := .collected D, args := #[] }) .returning w := by
    intro Es
    induction Es with
    | nil =>
      intro w hS
      have hS1 : Sep w0 B w qs := Sep.del (l := []) hS
      exact ⟨V, by rw [← hV]; exact results_run hF hr (h w hS1), hR w hS1⟩
    | cons D Es ih =>
      intro w hS
      have hD : w.heap[D]? = some (.deferred (some [])) := by
        obtain ⟨f, hf, _⟩ := Sep.get (l := []) hS
        exact hf.1 D (by simp)
      exact ⟨by simp, .inl ⟨D, _, rfl, run_takeDeferred hD, ih _ (hS.defsTake _)⟩⟩
  exact key Ds w hS
theorem retD {rs : List ResultVar} {vs : List Value} {V : Value} (hF : FrD Ds n ρ a) (hS : Sep w0 B w (defsH Ds :: qs)) (hr : fn.results = rs.toArray) (h : ∀ w, Sep w0 B w qs → RVals P ρ w rs vs) (hV : tupOf vs = V)
    (hR : ∀ w, Sep w0 B w qs → R (.returned V) w) : bodyR P fn R .ret a w := leaveD hF hS hr h hV hR
end
end Go.GL
