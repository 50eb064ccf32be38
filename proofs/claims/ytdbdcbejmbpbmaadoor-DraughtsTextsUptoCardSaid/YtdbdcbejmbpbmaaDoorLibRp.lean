/-
  A range over a function that works on blocks of its own: they are gone behind the loop.
-/
import Derived.Test.YtdbdcbejmbpbmaaDoorLibRF
namespace Go.GL
open Go Go.RowKit
variable {Ds : List Nat} {ro : Option Nat}
variable {P : Program} {Q : Exit → Act → World → Prop} {a : Act} {w0 w : World} {B n : Nat} {ρ : Env} {ps : List HP}

theorem range_outP {S R X : Type} {g : Operand} {ps' : Array Tmp} {assign body : Code} {gf : Nat} {fg : Func} {lb : List Value} {qs pr fs : List HP} {enc : X → Array Value} (pv : X → List (Nat × Value))
    (It : S → List HP → Prop) (Ox : R → Code → List HP → Prop) (L : X → S → Option (St S R)) (s0 : S) {y : St S R}
    (hF : FrD Ds n ρ a) (hS : Sep w0 B w (qs ++ (defsH Ds :: (pr ++ fs)))) (hg : ρ.rd [] g = some (.func (.func gf) #[] lb.toArray)) (hfn : P.funcs[gf]? = some fg) (hname : (fg.name == "runtime.NumGoroutine") = false) (hbd : fg.body.isSome = true)
    (hgs : ρ.all (fun e => e.gs.isEmpty) = true) (hpv : ∀ x, (ps'.zip (enc x)).toList = pv x) (hps : ∀ x, (enc x).size = ps'.size) (hlt : ∀ x, ∀ p ∈ pv x, p.1 < n) (h0 : It s0 qs)
    (hcall : ∀ (l D : Nat) (RS : St S R → List HP → Prop) (w : World), YieldC P w0 B l enc RS (ydOf L) (defsH (D :: Ds) :: fs) → Sep w0 B w (stateH RS (.next s0) :: defsH (D :: Ds) :: (pr ++ fs)) →
      Calls P gf (Value.func (.yield l) #[] #[] :: lb).toArray w (retOnly fun _ w' => Sep w0 B w' (stateH RS y :: defsH (D :: Ds) :: fs)))
    (hbody : ∀ (l D : Nat) (r : Loop) (x : X) (s : S) (o : St S R) (qs us : List HP) (a' : Act) (w : World), r.state = .ready → L x s = some o → It s qs → FrD [] n (putsE ρ (pv x)) a' → Sep w0 B w (recH l r :: (qs ++ (defsH (D :: Ds) :: fs ++ us))) →
      assign.wpIn (RF (some l)) 9 P (Exit.then (beginK P l body (roundQ l It Ox o { r with state := .busy } w0 B (defsH (D :: Ds) :: fs ++ us))) noX) a' w)
    (hn : ∀ (s : S) (D : Nat) (qs : List HP) (a' : Act) (w : World), y = .next s → It s qs → FrD (D :: Ds) n ρ a' → Sep w0 B w (qs ++ (defsH (D :: Ds) :: fs)) → Q .normal a' w)
    (hx : ∀ (x : R) (c : Code) (D : Nat) (qs : List HP) (a' : Act) (w : World), y = .done x → Ox x c qs → FrD (D :: Ds) n ρ a' → Sep w0 B w (qs ++ (defsH (D :: Ds) :: fs)) → c.wpIn (RF none) 9 P Q a' w) :
    (Code.rangeFunc g ps' assign body).wpIn (RF none) 9 P Q a w := by
  refine wpIn_rangeFunc fun fn _ => ?_
  have hev : a.eval g = .func (.func gf) #[] lb.toArray := hF.rd (ctx := []) (fun g hg => by cases hg) hg
  refine ⟨w.heap.size + 1, [{ target := .collected w.heap.size, args := #[] }], (w.alloc (.deferred (some []))).alloc (.loop (recOf fn a.tmps ps' assign body w.heap.size)), { target := .fn (.func gf) lb.toArray, args := #[.func (.yield (w.heap.size + 1)) #[] #[]] },
    (w.alloc (.deferred (some []))).alloc (.loop (recOf fn a.tmps ps' assign body w.heap.size)), gf, (Value.func (.yield (w.heap.size + 1)) #[] #[] :: lb).toArray, (w.alloc (.deferred (some []))).alloc (.loop (recOf fn a.tmps ps' assign body w.heap.size)), ?_, ?_, ?_, ?_, fun h => (by cases h), ?_⟩
  · exact run_enterLoop_outer _ _ _ _ _
  · simp only [resolve, hev]
    simp [go_sem]
  · intro f' _; trivial
  · have := run_callF (P := P) hfn hname hbd (Value.func (.yield (w.heap.size + 1)) #[] #[] :: lb).toArray ((w.alloc (.deferred (some []))).alloc (.loop (recOf fn a.tmps ps' assign body w.heap.size)))
    simpa [invoke, go_sem] using this
  · have hS1 : Sep w0 B (w.alloc (.deferred (some []))) (defsH (w.heap.size :: Ds) :: ((pr ++ fs) ++ qs)) := Sep.defsNew (Sep.comm (qs := defsH Ds :: (pr ++ fs)) hS)
    have hS2 := Sep.recNew hS1 (recOf fn a.tmps ps' assign body w.heap.size)
    rw [World.size_alloc] at hS2
    have hS3 : Sep w0 B ((w.alloc (.deferred (some []))).alloc (.loop (recOf fn a.tmps ps' assign body w.heap.size))) ((recH (w.heap.size + 1) (recOf fn a.tmps ps' assign body w.heap.size) :: qs) ++ (defsH (w.heap.size :: Ds) :: (pr ++ fs))) := by
      have h1 := Sep.comm (ps := [recH (w.heap.size + 1) (recOf fn a.tmps ps' assign body w.heap.size)]) hS2
      have h2 : Sep w0 B ((w.alloc (.deferred (some []))).alloc (.loop (recOf fn a.tmps ps' assign body w.heap.size))) ((defsH (w.heap.size :: Ds) :: (pr ++ fs)) ++ (qs ++ [recH (w.heap.size + 1) (recOf fn a.tmps ps' assign body w.heap.size)])) := by simpa using h1
      have h3 : Sep w0 B ((w.alloc (.deferred (some []))).alloc (.loop (recOf fn a.tmps ps' assign body w.heap.size))) ((qs ++ [recH (w.heap.size + 1) (recOf fn a.tmps ps' assign body w.heap.size)]) ++ (defsH (w.heap.size :: Ds) :: (pr ++ fs))) := h2.comm
      have h4 := Sep.move (l := qs) (p := recH (w.heap.size + 1) (recOf fn a.tmps ps' assign body w.heap.size)) (r := defsH (w.heap.size :: Ds) :: (pr ++ fs)) (l' := []) (r' := qs ++ (defsH (w.heap.size :: Ds) :: (pr ++ fs))) (by simpa using h3) (by simp)
      exact h4
    have hS4 := Sep.pack (RS := roundS (w.heap.size + 1) It Ox (recOf fn a.tmps ps' assign body w.heap.size)) (s := .next s0) ⟨qs, h0, rfl⟩ hS3
    have hyc := yield_of (P := P) (w0 := w0) (B := B) (fn := fn) (D := w.heap.size) (l := w.heap.size + 1) (fs := defsH (w.heap.size :: Ds) :: fs) (L := L) (It := It) (Ox := Ox) pv hF hgs hpv hps hlt (hbody (w.heap.size + 1) w.heap.size)
    refine (callsIn_wide (n := 8)).2 (Calls.mono (hcall _ _ _ _ hyc hS4) ?_)
    intro e w' he
    cases e with
    | panicked c => exact he.elim
    | outgrown => exact he.elim
    | returned v =>
      obtain ⟨qs', hrs, hS5⟩ := Sep.unpack he
      have hF2 : FrD (w.heap.size :: Ds) n ρ { a with defers := [{ target := .collected w.heap.size, args := #[] }] ++ a.defers } := ⟨hF.size, by rw [hF.defers]; rfl, hF.ent⟩
      cases hy : y with
      | next s =>
        rw [hy] at hrs
        obtain ⟨q, hq, rfl⟩ := hrs
        have hl := Sep.recGet hS5
        refine ⟨none, _, run_endLoop hl (by simp), ?_⟩
        exact hn s _ q _ _ hy hq hF2 (Sep.del (l := []) (Sep.recSet hS5 _))
      | done x =>
        rw [hy] at hrs
        obtain ⟨c, q, hq, rfl⟩ := hrs
        have hl := Sep.recGet hS5
        refine ⟨some c, _, run_endLoop hl (by simp), ?_⟩
        exact hx x c _ q _ _ hy hq hF2 (Sep.del (l := []) (Sep.recSet hS5 _))

end Go.GL
