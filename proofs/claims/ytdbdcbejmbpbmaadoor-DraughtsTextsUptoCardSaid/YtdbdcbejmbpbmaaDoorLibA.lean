/-
  A small library of our own, in no way bound to one program: frames as lists of slots, and an evaluator for regions that only compute, read or call quietly, proved once.
-/
import Derived.WalkKit
import Derived.KernelRfl
import Derived.Deep.Quiet
import Derived.Orders
import Derived.OrdersHeld
import Derived.OrdersIn
import Derived.RangeFuncNested
namespace Go.GL
open Go Go.RowKit
variable {Ds : List Nat} {ro : Option Nat}

/-! ### One fence for all code: it tells a frame's round alone -/
def RF (ro : Option Nat) : Fence := { Fence.wide with round := ro }

/-- Only a return is taken. -/
def retOnly (R : Value → World → Prop) : Ending → World → Prop
  | .returned v, w => R v w
  | _, _ => False

def upR (P : Program) (o : Oper) (a : Act) (next : Act → World → Prop) : Result Next → Prop
  | .ok (.value v) w' => next (a.put o.dst v) w'
  | .ok .skip w' => next (a.put o.dst undef) w'
  | .ok (.enter f args) w' => Calls P f args w' (retOnly fun v w'' => next (a.put o.dst v) w'')
  | .ok (.row row args) w' => Rows P row args w' fun v w'' => next (a.put o.dst v) w''
  | .ok (.round l f tmps assign body) w' => RoundIn Fence.wide 8 P l f tmps assign body w' (retOnly fun v w'' => next (a.put o.dst v) w'')
  | _ => False

def oR (P : Program) (o : Oper) (a : Act) (w : World) (next : Act → World → Prop) : Prop := upR P o a next ((execOp a.eval o).run P w)

def listR (P : Program) (ops : Array Oper) (Q : Exit → Act → World → Prop) : List Oper → Act → World → Prop
  | [], a, w => Q .normal a w
  | o :: rest, a, w => if Region.wanted o (yielded ops a.tmps) then oR P o a w (listR P ops Q rest) else listR P ops Q rest (a.put o.dst undef) w

def opR (P : Program) (ops : Array Oper) (_ : Exit → Act → World → Prop) (i : Nat) (K : Act → World → Prop) (a : Act) (w : World) : Prop :=
  match ops[i]? with
  | none => K a w
  | some o => if Region.wanted o (yielded ops a.tmps) then oR P o a w K else K (a.put o.dst undef) w

def anyR (P : Program) (md : Region.Mode) (ops : Array Oper) (Q : Exit → Act → World → Prop) : Nat → Array Bool → Act → World → Prop
  | 0, listed, a, w => Region.ready md ops listed = [] ∧ Q .normal a w
  | fuel + 1, listed, a, w => (Region.ready md ops listed = [] → Q .normal a w) ∧
    ∀ i ∈ Region.ready md ops listed, opR P ops Q i (anyR P md ops Q fuel (listed.setIfInBounds i true)) a w

section
variable {P : Program} {ops : Array Oper} {Q : Exit → Act → World → Prop} {md : Region.Mode} {o : Oper} {a : Act} {w : World} {K K' : Act → World → Prop} {S : World → Prop} {C : World → Prop}

theorem retOnly_mono {R R' : Value → World → Prop} (h : ∀ v w, R v w → R' v w) : ∀ e w, retOnly R e w → retOnly R' e w := fun e w he => by
  cases e with
  | returned v => exact h v w he
  | panicked c => exact he.elim
  | outgrown => exact he.elim
theorem upR_value (v : Value) : upR P o a K (.ok (.value v) w) = K (a.put o.dst v) w := rfl
theorem upR_skip : upR P o a K (.ok .skip w) = K (a.put o.dst undef) w := rfl
theorem upR_enter (f : FuncId) (args : Array Value) : upR P o a K (.ok (.enter f args) w) = Calls P f args w (retOnly fun v w'' => K (a.put o.dst v) w'') := rfl

theorem oR_mono (h : ∀ a w, K a w → K' a w) (hh : oR P o a w K) : oR P o a w K' := by
  unfold oR at *
  generalize (execOp a.eval o).run P w = r at *
  cases r with
  | ok x w' =>
    cases x <;> simp only [upR] at hh ⊢
    case value v => exact h _ _ hh
    case skip => exact h _ _ hh
    case enter f args => exact Calls.mono hh (retOnly_mono fun v w he => h _ _ he)
    case row row args => exact Rows.mono hh fun _ _ he => h _ _ he
    case round l f tmps assign body => exact RoundIn.mono hh (retOnly_mono fun v w he => h _ _ he)
  | halt x w' => simp only [upR] at hh

theorem opR_mono {i : Nat} (h : ∀ a w, K a w → K' a w) (hh : opR P ops Q i K a w) : opR P ops Q i K' a w := by
  unfold opR at *
  split
  · exact h _ _ (by simpa [*] using hh)
  · rename_i o ho
    simp only [ho] at hh
    split
    · rename_i hw; simp only [hw, if_true] at hh; exact oR_mono h hh
    · rename_i hw; simp only [hw] at hh; exact h _ _ hh

theorem listR_plain {rest : List Oper} (hg : o.guard = none) (h : ∀ K : Act → World → Prop, (∀ a w, listR P ops Q rest a w → K a w) → oR P o a w K) : listR P ops Q (o :: rest) a w := by
  unfold listR
  simp only [Region.wanted, hg, if_true]
  exact h _ fun _ _ h => h

theorem room_RF (ro : Option Nat) (n : Nat) : (RF ro).room n := fun _ h => by cases h

theorem not_defer {ρ : Operand → Value} {r : Result Next} (hr : (execOp ρ o).run P w = r) (h : upR P o a K r) : ∀ c, o.op ≠ .defer c := by
  intro c hc
  subst hr
  unfold execOp at h
  rw [hc] at h
  simp only [Sem.run_bind] at h
  cases hx : (resolve ρ c o.type).run P w with
  | ok d w' => simp only [hx, Result.andThen, Sem.run_pure, upR] at h
  | halt x w' => simp only [hx, Result.andThen, upR] at h

theorem oR_in (hh : oR P o a w K) : o.wpIn (RF ro) 9 P a w K Q := by
  unfold Oper.wpIn
  refine ⟨fun _ _ => trivial, ?_⟩
  unfold oR at hh
  rw [Oper.semAt_eq _ _ _ (not_defer rfl hh)]
  generalize (execOp a.eval o).run P w = r at *
  cases r with
  | ok x w' =>
    cases x <;> simp only [upR] at hh <;> simp only [Oper.uponIn]
    case value v => exact hh
    case skip => exact hh
    case enter f args => exact ⟨fun h => (by cases h), (callsIn_wide (n := 8)).2 (Calls.mono hh fun e w he => by cases e <;> first | exact he | exact he.elim)⟩
    case row row args =>
      refine ⟨fun h => (by cases h), fun c cs _ => ?_⟩
      obtain ⟨v, w1, h1, h2⟩ := hh c cs
      exact ⟨v, w1, h1, stepsIn_wide.2 h2⟩
    case round l f tmps assign body =>
      refine ⟨fun h => (by cases h), ?_⟩
      exact RoundIn.mono (F := Fence.wide) hh fun e w he => by cases e <;> first | exact he | exact he.elim
  | halt x w' => simp only [upR] at hh

theorem listR_in : ∀ (l : List Oper) (a : Act) (w : World), listR P ops Q l a w → wpListIn (RF ro) 9 P ops Q l a w
  | [], _, _, h => h
  | o :: l, a, w, h => by
    unfold listR at h
    unfold wpListIn
    split
    · rename_i hw
      rw [if_pos hw] at h
      exact oR_in (oR_mono (fun a w h => listR_in l a w h) h)
    · rename_i hw
      rw [if_neg hw] at h
      exact ⟨fun _ _ => trivial, listR_in l _ _ h⟩

theorem opR_in {i : Nat} (h : opR P ops Q i K a w) : wpOpIn (RF ro) 9 P ops Q i K a w := by
  unfold opR at h
  unfold wpOpIn
  split
  · rename_i ho; simp only [ho] at h; exact h
  · rename_i o ho
    simp only [ho] at h
    split
    · rename_i hw; rw [if_pos hw] at h; exact oR_in h
    · rename_i hw; rw [if_neg hw] at h; exact ⟨fun _ _ => trivial, h⟩

theorem anyR_in : ∀ (f : Nat) (listed : Array Bool) (a : Act) (w : World), anyR P md ops Q f listed a w → wpAnyIn (RF ro) 9 P md ops Q f listed a w
  | 0, _, _, _, h => h
  | f + 1, _, _, _, h => ⟨h.1, fun i hi => opR_in (opR_mono (fun a w h => anyR_in f _ a w h) (h.2 i hi))⟩

theorem regionR_lit {id : Nat} {l : List Oper} (h : listR P l.toArray Q l a w) : (Code.region id l.toArray false).wpIn (RF ro) 9 P Q a w := wpIn_region_lit (listR_in l a w h)
theorem regionR_any {id : Nat} (hm : P.follows .mixedOrders = true) (h : anyR P .any ops Q ops.size (Array.replicate ops.size false) a { w with drawn := w.drawn + 1 }) : (Code.region id ops true).wpIn (RF ro) 9 P Q a w :=
  wpIn_region_any hm (anyR_in _ _ _ _ h)

theorem oR_of_quiet {K : Act → Prop} {K' : Act → World → Prop} (hw : C w) (h : ∀ a w', C w' → K a → K' a w') (hh : o.quiet P a C K) : oR P o a w K' := by
  obtain ⟨v, h1, h2⟩ := hh
  have h3 := h1 w hw
  unfold Oper.quietAt at h3
  unfold oR
  generalize (execOp a.eval o).run P w = r at *
  cases r with
  | ok n w' =>
    cases n <;> simp only [Oper.quietUpon] at h3 <;> simp only [upR]
    case value u =>
      obtain ⟨e1, e2⟩ := h3
      rw [e1, e2]
      exact h _ _ hw h2
    case skip =>
      obtain ⟨e1, e2⟩ := h3
      rw [e1, ← e2]
      exact h _ _ hw h2
    case enter f args =>
      obtain ⟨e1, hc⟩ := h3
      rw [e1]
      exact hc.mono fun e w'' ⟨he, hw''⟩ => by subst he; exact h _ _ hw'' h2
  | halt x w' => simp only [Oper.quietUpon] at h3

theorem opR_of_qOp {i : Nat} {K : Act → Prop} {K' : Act → World → Prop} (hC : C w) (h : ∀ a w', C w' → K a → K' a w') (hh : qOp P ops C i K a) : opR P ops Q i K' a w := by
  unfold qOp at hh
  unfold opR
  split
  · rename_i ho; simp only [ho] at hh; exact h _ _ hC hh
  · rename_i o ho
    simp only [ho] at hh
    split
    · rename_i hw; simp only [hw, if_true] at hh; exact oR_of_quiet hC h hh
    · rename_i hw; simp only [hw] at hh; exact h _ _ hC hh

theorem anyR_of_quiet {Q0 : Act → Prop} {Q' : Exit → Act → World → Prop} (hQ : ∀ a w, C w → Q0 a → Q' .normal a w) : ∀ (fuel : Nat) (listed : Array Bool) (a : Act) (w : World), C w →
    wpAnyQ P md ops C Q0 fuel listed a → anyR P md ops Q' fuel listed a w
  | 0, _, _, _, hw, h => ⟨h.1, hQ _ _ hw h.2⟩
  | fuel + 1, _, _, _, hw, h => ⟨fun h0 => hQ _ _ hw (h.1 h0), fun i hi => opR_of_qOp hw (fun a' w' hw' => anyR_of_quiet hQ fuel _ a' w' hw') (h.2 i hi)⟩

theorem regionR_quiet {id : Nat} (hm : P.follows .mixedOrders = true) (hB : Region.lexB .any ops = true) (hC : C { w with drawn := w.drawn + 1 })
    (h : wpQuiet P ops C (fun a' => ∀ w', C w' → Q .normal a' w') ops.toList a) : (Code.region id ops true).wpIn (RF ro) 9 P Q a w := by
  simp only [Region.lexB, Bool.and_eq_true] at hB
  refine regionR_any hm (anyR_of_quiet (Q0 := fun a' => ∀ w', C w' → Q .normal a' w') (fun _ w' hw' h => h w' hw') _ _ _ _ hC ?_)
  have := wpAnyQ_lex (C := C) (md := .any) hB.1 ops.toList 0 (Array.replicate ops.size false) a (by simp) (by simpa using hB.2) h
  simpa using this

theorem _root_.Go.YieldsIf.opR {i : Nat} {v : Value} (hi : ops[i]? = some o) (hy : YieldsIf P ops S o v a) (hS : S w) (h : K (a.put o.dst v) w) : GL.opR P ops Q i K a w := by
  unfold GL.opR
  simp only [hi]
  rcases hy with ⟨hw, hv⟩ | ⟨hw, rfl⟩
  · simp only [hw, if_true, oR, hv w hS, upR]; exact h
  · simp only [hw, Bool.false_eq_true, if_false]; exact h

end

/-- What a function's body must come to; marks of ranges over functions may lie among the deferred calls. -/
def bodyR (P : Program) (fn : Func) (R : Ending → World → Prop) : Exit → Act → World → Prop := bodyPostM Fence.wide 9 P fn R
theorem bodyR_ret {P : Program} {fn : Func} {R : Ending → World → Prop} {a : Act} {w : World} {v : Value} (hr : (results fn a.tmps).run P w = .ok v w) (hd : a.defers = []) (hR : R (.returned v) w) : bodyR P fn R .ret a w := by
  show LeavesInM Fence.wide 9 P fn a.tmps R a.defers .returning w
  rw [hd]
  exact ⟨v, hr, hR⟩
theorem bodyR_end {P : Program} {fn : Func} {R : Ending → World → Prop} {a : Act} {w : World} {v : Value} (hr : (results fn a.tmps).run P w = .ok v w) (hd : a.defers = []) (hR : R (.returned v) w) : bodyR P fn R .normal a w := by
  show LeavesInM Fence.wide 9 P fn a.tmps R a.defers .returning w
  rw [hd]
  exact ⟨v, hr, hR⟩
theorem callsR_of_wp {P : Program} {f : FuncId} {fn : Func} {c : Code} {args : Array Value} {w : World} {R : Ending → World → Prop} (hf : P.funcs[f]? = some fn) (hb : fn.body = some c)
    (h : c.wpIn (RF none) 9 P (bodyR P fn R) { tmps := args ++ Array.replicate (fn.ntmps - args.size) undef, defers := [] } w) : Calls P f args w R :=
  (callsIn_wide (n := 9)).1 (callsIn_of_wp_marks (F := Fence.wide) (n := 9) hf hb trivial h)


/-- A slot's entry: it holds where each of its guards (slot, wanted) is met. -/
structure Ent where
  t : Nat
  gs : List (Nat × Bool)
  v : Value

abbrev Env := List Ent

def Env.find (ρ : Env) (t : Nat) : Option Ent :=
  match ρ with
  | [] => none
  | e :: r => if Nat.beq e.t t then some e else Env.find r t

def Env.drop (ρ : Env) (t : Nat) : Env :=
  match ρ with
  | [] => []
  | e :: r => if Nat.beq e.t t then Env.drop r t else e :: Env.drop r t

def Env.put (ρ : Env) (d : Option Nat) (gs : List (Nat × Bool)) (v : Value) : Env :=
  match d with
  | none => ρ
  | some t => ⟨t, gs, v⟩ :: ρ.drop t

def met (a : Act) (gs : List (Nat × Bool)) : Prop := ∀ g ∈ gs, a.tmps[g.1]? = some (.bool g.2)

def Ent.holds (a : Act) (e : Ent) : Prop := e.t < a.tmps.size ∧ (met a e.gs → a.tmps[e.t]? = some e.v) ∧ (¬ met a e.gs → a.tmps[e.t]? = some undef)

structure FrD (Ds : List Nat) (n : Nat) (ρ : Env) (a : Act) : Prop where
  size : a.tmps.size = n
  defers : a.defers = Ds.map fun D => { target := .collected D, args := #[] }
  ent : ∀ t e, ρ.find t = some e → e.holds a

abbrev Fr := FrD []

/-- An entry with no guard. -/
abbrev pl (t : Nat) (v : Value) : Ent := ⟨t, [], v⟩

theorem find_t {ρ : Env} {t : Nat} {e : Ent} (h : ρ.find t = some e) : e.t = t := by
  induction ρ with
  | nil => simp [Env.find] at h
  | cons x r ih =>
    unfold Env.find at h
    split at h
    · rename_i hb
      simp at h; subst h; exact Nat.eq_of_beq_eq_true hb
    · exact ih h

theorem find_drop_ne {ρ : Env} {t d : Nat} (h : t ≠ d) : (ρ.drop d).find t = ρ.find t := by
  induction ρ with
  | nil => rfl
  | cons x r ih =>
    unfold Env.drop
    split
    · rename_i hb
      have hx := Nat.eq_of_beq_eq_true hb
      rw [ih]
      conv => rhs; unfold Env.find
      rw [if_neg]
      intro hb2
      exact h ((Nat.eq_of_beq_eq_true hb2).symm.trans hx)
    · unfold Env.find
      split
      · rfl
      · exact ih

theorem find_put {ρ : Env} {d : Nat} {gs : List (Nat × Bool)} {v : Value} {t : Nat} {e : Ent} (h : (ρ.put (some d) gs v).find t = some e) :
    (t = d ∧ e = ⟨d, gs, v⟩) ∨ (t ≠ d ∧ ρ.find t = some e) := by
  unfold Env.put Env.find at h
  split at h
  · rename_i hb
    simp at h
    exact .inl ⟨(Nat.eq_of_beq_eq_true hb).symm, h.symm⟩
  · rename_i hb
    have hne : t ≠ d := by
      intro he
      subst he
      exact hb (by show Nat.beq t t = true; simp)
    exact .inr ⟨hne, by rw [← find_drop_ne hne]; exact h⟩

/-- No entry hangs on slot 'd'. -/
def Env.clear (ρ : Env) (d : Nat) : Bool := ρ.all fun e => e.gs.all fun g => !(Nat.beq g.1 d)

theorem clear_find {ρ : Env} {d t : Nat} {e : Ent} (hc : ρ.clear d = true) (h : ρ.find t = some e) : ∀ g ∈ e.gs, g.1 ≠ d := by
  induction ρ with
  | nil => simp [Env.find] at h
  | cons x r ih =>
    unfold Env.clear at hc
    simp only [List.all_cons, Bool.and_eq_true] at hc
    unfold Env.find at h
    split at h
    · simp at h
      subst h
      intro g hg he
      have h1 := List.all_eq_true.1 hc.1 g hg
      rw [he] at h1
      simp at h1
    · exact ih (by unfold Env.clear; exact hc.2) h

theorem met_put {a : Act} {gs : List (Nat × Bool)} {d : Nat} {v : Value} (h : ∀ g ∈ gs, g.1 ≠ d) : met (a.put (some d) v) gs ↔ met a gs := by
  unfold met
  constructor
  · intro hm g hg
    have := hm g hg
    simp only [Act.put, Array.getElem?_setIfInBounds] at this
    rw [if_neg (Ne.symm (h g hg))] at this
    exact this
  · intro hm g hg
    have := hm g hg
    simp only [Act.put, Array.getElem?_setIfInBounds]
    rw [if_neg (Ne.symm (h g hg))]
    exact this

theorem FrD.put {n : Nat} {ρ : Env} {a : Act} (h : FrD Ds n ρ a) {d : Nat} {gs : List (Nat × Bool)} {v v' : Value} (hd : d < n) (hc : ρ.clear d = true) (hg : ∀ g ∈ gs, g.1 ≠ d)
    (hv : met a gs → v' = v) (hu : ¬ met a gs → v' = undef) : FrD Ds n (ρ.put (some d) gs v) (a.put (some d) v') := by
  refine ⟨by simp [Act.put, h.size], by simp [Act.put, h.defers], ?_⟩
  intro t e he
  rcases find_put he with ⟨rfl, rfl⟩ | ⟨hne, he⟩
  · refine ⟨by simp [Act.put, h.size, hd], fun hm => ?_, fun hm => ?_⟩
    · rw [met_put hg] at hm
      simp [Act.put, h.size, hd, hv hm]
    · rw [met_put hg] at hm
      simp [Act.put, h.size, hd, hu hm]
  · obtain ⟨h1, h2, h3⟩ := h.ent t e he
    have het := find_t he
    have hcl := clear_find hc he
    refine ⟨by simpa [Act.put] using h1, fun hm => ?_, fun hm => ?_⟩
    · rw [met_put hcl] at hm
      have := h2 hm
      simp only [Act.put, Array.getElem?_setIfInBounds]
      rw [if_neg (by rw [het]; exact Ne.symm hne)]
      exact this
    · rw [met_put hcl] at hm
      have := h3 hm
      simp only [Act.put, Array.getElem?_setIfInBounds]
      rw [if_neg (by rw [het]; exact Ne.symm hne)]
      exact this

theorem FrD.get {n : Nat} {ρ : Env} {a : Act} (h : FrD Ds n ρ a) {t : Nat} {v : Value} (he : ρ.find t = some (pl t v)) : a.tmps[t]? = some v :=
  (h.ent t _ he).2.1 (fun g hg => by cases hg)

theorem FrD.getD {n : Nat} {ρ : Env} {a : Act} (h : FrD Ds n ρ a) {t : Nat} {v : Value} (he : ρ.find t = some (pl t v)) : a.tmps.getD t undef = v := by
  have := h.get he
  simp [Array.getD_eq_getD_getElem?, this]

/-- Only some slots are kept, in this order. -/
def Env.sel (ρ : Env) (ts : List Nat) : Env := ts.filterMap fun t => ρ.find t

theorem find_sel {ρ : Env} {ts : List Nat} {t : Nat} {e : Ent} (h : (ρ.sel ts).find t = some e) : ρ.find t = some e := by
  induction ts with
  | nil => simp [Env.sel, Env.find] at h
  | cons x r ih =>
    unfold Env.sel at h ih
    rw [List.filterMap_cons] at h
    split at h
    · exact ih h
    · rename_i b hb
      unfold Env.find at h
      split at h
      · rename_i hbt
        simp at h
        subst h
        have h1 := find_t hb
        have h2 := Nat.eq_of_beq_eq_true hbt
        rw [h1] at h2
        rw [← h2]; exact hb
      · exact ih h

theorem FrD.sel {n : Nat} {ρ : Env} {a : Act} (h : FrD Ds n ρ a) (ts : List Nat) : FrD Ds n (ρ.sel ts) a :=
  ⟨h.size, h.defers, fun t e he => h.ent t e (find_sel he)⟩

theorem FrD.weak {n : Nat} {ρ τ : Env} {a : Act} (h : FrD Ds n ρ a) (ts : List Nat) (he : ρ.sel ts = τ) : FrD Ds n τ a := he ▸ h.sel ts

/-- Running what asks nothing of the world. -/
def runPure (P : Program) {α : Type} : Sem α → Option α
  | .pure a => some a
  | .program k => runPure P (k P)
  | _ => none

theorem runPure_run {P : Program} {α : Type} (s : Sem α) {x : α} (h : runPure P s = some x) (w : World) : s.run P w = .ok x w := by
  induction s with
  | pure a => simp only [runPure, Option.some.injEq] at h; subst h; rfl
  | program k ih => simp only [runPure] at h; simp only [Sem.run]; exact ih P h
  | _ => simp [runPure] at h

/-- The value of an operand where the guards 'ctx' are met. -/
def Env.rd (ρ : Env) (ctx : List (Nat × Bool)) : Operand → Option Value
  | .tmp t => match ρ.find t with
    | some e => if e.gs.all (fun g => ctx.any fun c => Nat.beq c.1 g.1 && (c.2 == g.2)) then some e.v else none
    | none => none
  | .const v => some v
  | .global g => some (.pointer (some ⟨g, 0, none⟩))
  | .func f => some (.func (.func f) #[] #[])

def Env.σ (ρ : Env) (ctx : List (Nat × Bool)) (x : Operand) : Value := (ρ.rd ctx x).getD undef

theorem met_sub {a : Act} {ctx gs : List (Nat × Bool)} (h : gs.all (fun g => ctx.any fun c => Nat.beq c.1 g.1 && (c.2 == g.2)) = true) (hm : met a ctx) : met a gs := by
  intro g hg
  have h1 := List.all_eq_true.1 h g hg
  obtain ⟨c, hc, he⟩ := List.any_eq_true.1 h1
  simp only [Bool.and_eq_true, beq_iff_eq] at he
  have := hm c hc
  rw [← he.2, ← Nat.eq_of_beq_eq_true he.1]
  exact this

theorem FrD.rd {n : Nat} {ρ : Env} {a : Act} (h : FrD Ds n ρ a) {ctx : List (Nat × Bool)} (hm : met a ctx) {x : Operand} {v : Value} (hv : ρ.rd ctx x = some v) : a.eval x = v := by
  cases x with
  | tmp t =>
    simp only [Env.rd] at hv
    split at hv
    · rename_i e he
      split at hv
      · rename_i hall
        simp at hv
        subst hv
        have := (h.ent t e he).2.1 (met_sub hall hm)
        rw [find_t he] at this
        simp [Act.eval, Array.getD_eq_getD_getElem?, this]
      · simp at hv
    · simp at hv
  | const v' => simp [Env.rd] at hv; simp [Act.eval, hv]
  | global g => simp [Env.rd] at hv; simp [Act.eval, hv]
  | func f => simp [Env.rd] at hv; simp [Act.eval, hv]

def noSel (o : Oper) : Bool := match o.op with | .select .. => false | _ => true

/-- All operands can be read. -/
def okOps (ρ : Env) (ctx : List (Nat × Bool)) (o : Oper) : Bool := noSel o && o.op.operands.all fun x => (ρ.rd ctx x).isSome

theorem execOp_env {n : Nat} {ρ : Env} {a : Act} (h : FrD Ds n ρ a) {ctx : List (Nat × Bool)} (hm : met a ctx) {o : Oper} (hok : okOps ρ ctx o = true) :
    execOp a.eval o = execOp (ρ.σ ctx) o := by
  unfold okOps at hok
  rw [Bool.and_eq_true] at hok
  refine execOp_congr o ?_ fun x hx => ?_
  · intro cs b he
    have := hok.1
    simp [noSel, he] at this
  · have h1 := Array.all_eq_true_iff_forall_mem.1 hok.2 x (by simpa using hx)
    obtain ⟨v, hv⟩ := Option.isSome_iff_exists.1 h1
    rw [h.rd hm hv]
    simp [Env.σ, hv]

/-- What is left to be shown of an operation that the evaluator took on trust: under 'hyps'. -/
structure Ob where
  free : Bool
  hyps : List (Bool × Bool)
  s : Sem Next
  v : Value

def Ob.holds (P : Program) (C : World → Prop) (x : Bool) (b : Ob) : Prop :=
  (∀ h ∈ b.hyps, h.1 = h.2) → match b.free, x with
    | true, _ => ∀ w, b.s.run P w = .ok (.value b.v) w
    | false, true => ∀ w, C w → b.s.run P w = .ok (.value b.v) w
    | false, false => ∀ w, C w → Oper.quietUpon P C w b.v (b.s.run P w)

/-- The operation asks nothing of the world. -/
def wfree (o : Oper) : Bool :=
  match o.op with
  | .load .. | .lookup .. | .next .. | .entry .. | .waits .. | .range .. => false
  | .call c => match c.callee with
    | .builtin .len | .builtin .min | .builtin .max | .builtin .cap => true
    | _ => false
  | _ => true

def hypsOf (ρ : Env) : List (Nat × Bool) → Option (List (Bool × Bool))
  | [] => some []
  | (s, want) :: r =>
    match ρ.find s with
    | some ⟨_, _, .bool b⟩ => match hypsOf ρ r with
      | some hs => some ((b, want) :: hs)
      | none => none
    | _ => none

/-- The guards under which an operation comes up. -/
def ctxOf (ρ : Env) (ops : Array Oper) (o : Oper) : Option (List (Nat × Bool)) :=
  match o.guard with
  | none => some []
  | some (j, want) => match (ops[j]?).bind (·.dst) with
    | none => none
    | some s => match ρ.find s with
      | none => none
      | some e => some ((s, want) :: e.gs)

def pickV (ρ : Env) (ctx : List (Nat × Bool)) (c a b : Operand) : Option Value :=
  match c with
  | .tmp s => match ρ.rd ctx (.tmp s) with
    | some (.bool cb) =>
      match ρ.rd ((s, true) :: ctx) a, ρ.rd ((s, false) :: ctx) b with
      | some va, some vb =>
        match a, b, va, vb with
        | .const (.bool true), _, _, .bool y => some (.bool (cb || y))
        | _, .const (.bool false), .bool x, _ => some (.bool (cb && x))
        | _, _, .bool x, .bool y => some (.bool (bif cb then x else y))
        | _, _, .int k x, .int k' y => if k = k' then some (.int k (bif cb then x else y)) else none
        | _, _, _, _ => none
      | _, _ => none
    | _ => none
  | _ => none

def evVal (P : Program) (ρ : Env) (ctx : List (Nat × Bool)) (o : Oper) : Option Value :=
  match o.op with
  | .pick c a b => pickV ρ ctx c a b
  | _ => if okOps ρ ctx o then (match runPure P (execOp (ρ.σ ctx) o) with | some (.value v) => some v | _ => none) else none

def dstFree (ρ : Env) (ctx : List (Nat × Bool)) (o : Oper) : Bool :=
  match o.dst with
  | some d => ρ.clear d && ctx.all (fun g => !(Nat.beq g.1 d))
  | none => false

/-- The evaluator. 'orc': for each operation: none: computed; some v: taken on trust, an 'Ob' is left. -/
def evR (P : Program) (ops : Array Oper) : List Oper → List (Option Value) → Env → Option (Env × List Ob)
  | [], _, ρ => some (ρ, [])
  | o :: os, orc, ρ =>
    match ctxOf ρ ops o with
    | none => none
    | some ctx =>
      if dstFree ρ ctx o then
        match orc.head? with
        | some (some v) =>
          if okOps ρ ctx o then
            match hypsOf ρ ctx with
            | some hs => match evR P ops os orc.tail (ρ.put o.dst ctx v) with
              | some (ρ', obs) => some (ρ', ⟨wfree o, hs, execOp (ρ.σ ctx) o, v⟩ :: obs)
              | none => none
            | none => none
          else none
        | _ => match evVal P ρ ctx o with
          | some v => evR P ops os orc.tail (ρ.put o.dst ctx v)
          | none => none
      else none

theorem hypsOf_met {n : Nat} {ρ : Env} {a : Act} (h : FrD Ds n ρ a) : ∀ {ctx : List (Nat × Bool)} {hs : List (Bool × Bool)}, hypsOf ρ ctx = some hs → met a ctx →
    (∀ g ∈ ctx, ∀ e, ρ.find g.1 = some e → met a e.gs) → ∀ x ∈ hs, x.1 = x.2
  | [], hs, he, _, _ => by simp [hypsOf] at he; subst he; simp
  | (s, want) :: r, hs, he, hm, hcl => by
    simp only [hypsOf] at he
    split at he
    · rename_i t gs b hf
      split at he
      · rename_i hs' hr
        simp at he
        subst he
        intro x hx
        rcases List.mem_cons.1 hx with rfl | hx
        · have h1 := hm (s, want) (by simp)
          have h2 := (h.ent s _ hf).2.1 (hcl (s, want) (by simp) _ hf)
          have h3 := find_t hf
          simp only at h3 h1 h2
          rw [h3] at h2
          rw [h2] at h1
          simpa using h1
        · exact hypsOf_met h hr (fun g hg => hm g (by simp [hg])) (fun g hg => hcl g (by simp [hg])) x hx
      · simp at he
    · simp at he

/-- A context is closed: the guards' own guards are met with it. -/
theorem ctx_closed {n : Nat} {ρ : Env} {a : Act} (h : FrD Ds n ρ a) {s : Nat} {want : Bool} (hm : a.tmps[s]? = some (.bool want)) {e : Ent} (he : ρ.find s = some e) : met a e.gs := by
  apply Classical.byContradiction
  intro hn
  have := (h.ent s e he).2.2 hn
  rw [find_t he, hm] at this
  simp [undef] at this

theorem pickV_ok {n : Nat} {ρ : Env} {a : Act} (h : FrD Ds n ρ a) {ctx : List (Nat × Bool)} (hm : met a ctx) {c x y : Operand} {v : Value} (hv : pickV ρ ctx c x y = some v) :
    ∃ b, a.eval c = .bool b ∧ (if b then a.eval x else a.eval y) = v := by
  unfold pickV at hv
  split at hv
  · rename_i s
    split at hv
    · rename_i cb hcb
      have hc := h.rd hm hcb
      refine ⟨cb, hc, ?_⟩
      split at hv
      · rename_i va vb hva hvb
        have hs : a.tmps[s]? = some (.bool cb) := by
          simp only [Env.rd] at hcb
          split at hcb
          · rename_i e he
            split at hcb
            · rename_i hall
              simp at hcb
              have := (h.ent s e he).2.1 (met_sub hall hm)
              rw [find_t he, hcb] at this
              exact this
            · simp at hcb
          · simp at hcb
        have hA : cb = true → a.eval x = va := fun hb => h.rd (ctx := (s, true) :: ctx) (by
          intro g hg
          rcases List.mem_cons.1 hg with rfl | hg
          · rw [hb] at hs; exact hs
          · exact hm g hg) hva
        have hB : cb = false → a.eval y = vb := fun hb => h.rd (ctx := (s, false) :: ctx) (by
          intro g hg
          rcases List.mem_cons.1 hg with rfl | hg
          · rw [hb] at hs; exact hs
          · exact hm g hg) hvb
        split at hv
        · simp at hv; subst hv
          simp [Env.rd] at hva
          cases cb
          · simp [hB rfl]
          · simp [Act.eval]
        · simp at hv; subst hv
          simp [Env.rd] at hvb
          cases cb
          · simp [Act.eval]
          · simp [hA rfl]
        · simp at hv; subst hv
          cases cb
          · simp [hB rfl]
          · simp [hA rfl]
        · split at hv
          · rename_i hk
            simp at hv; subst hv; subst hk
            cases cb
            · simp [hB rfl]
            · simp [hA rfl]
          · simp at hv
        · simp at hv
      · simp at hv
    · simp at hv
  · simp at hv

theorem evVal_ok {P : Program} {n : Nat} {ρ : Env} {a : Act} (h : FrD Ds n ρ a) {ctx : List (Nat × Bool)} (hm : met a ctx) {o : Oper} {v : Value} (hv : evVal P ρ ctx o = some v) (w : World) :
    (execOp a.eval o).run P w = .ok (.value v) w := by
  unfold evVal at hv
  split at hv
  · rename_i c x y hop
    obtain ⟨b, hb, hv⟩ := pickV_ok h hm hv
    simp only [execOp, hop, hb, asBool, ← hv]
    rfl
  · split at hv
    · rename_i hok
      rw [execOp_env h hm hok]
      split at hv
      · rename_i v' hr
        simp at hv; subst hv
        exact runPure_run _ hr w
      · simp at hv
    · simp at hv

theorem wanted_met {n : Nat} {ρ : Env} {a : Act} (h : FrD Ds n ρ a) {ops : Array Oper} {o : Oper} {ctx : List (Nat × Bool)} (hc : ctxOf ρ ops o = some ctx) :
    (Region.wanted o (yielded ops a.tmps) = true → met a ctx ∧ ∀ g ∈ ctx, ∀ e, ρ.find g.1 = some e → met a e.gs) ∧ (Region.wanted o (yielded ops a.tmps) = false → ¬ met a ctx) := by
  unfold ctxOf at hc
  split at hc
  · rename_i hg
    simp at hc; subst hc
    exact ⟨fun _ => ⟨fun g hg => by simp at hg, fun g hg => by simp at hg⟩, fun hw => by simp [Region.wanted, hg] at hw⟩
  · rename_i j want hg
    split at hc
    · simp at hc
    · rename_i s hs
      split at hc
      · simp at hc
      · rename_i e he
        simp at hc; subst hc
        have hy : ∀ b, yielded ops a.tmps j = some b ↔ a.tmps[s]? = some (.bool b) := by
          intro b
          unfold yielded
          rw [hs]
          simp only [Option.bind_some]
          cases ht : a.tmps[s]? with
          | none => simp
          | some u => cases u <;> simp
        refine ⟨fun hw => ?_, fun hw hm => ?_⟩
        · simp only [Region.wanted, hg, beq_iff_eq] at hw
          have h1 := (hy want).1 hw
          have h2 := ctx_closed h h1 he
          refine ⟨fun g hg => ?_, fun g hg e' he' => ?_⟩
          · rcases List.mem_cons.1 hg with rfl | hg
            · exact h1
            · exact h2 g hg
          · rcases List.mem_cons.1 hg with rfl | hg
            · rw [he] at he'; simp at he'; subst he'; exact h2
            · exact ctx_closed h (h2 g hg) he'
        · simp only [Region.wanted, hg] at hw
          have h1 := (hy want).2 (hm (s, want) (by simp))
          rw [h1] at hw
          simp at hw

/-- Quiet operations, each in the worlds that it asks for. -/
def Oper.q (P : Program) (C : World → Prop) (x : Bool) (o : Oper) (a : Act) (v : Value) : Prop :=
  match wfree o, x with
  | true, _ => ∀ w, (execOp a.eval o).run P w = .ok (.value v) w
  | false, true => ∀ w, C w → (execOp a.eval o).run P w = .ok (.value v) w
  | false, false => ∀ w, C w → o.quietAt P a C w v

def wpQ (P : Program) (ops : Array Oper) (C : World → Prop) (x : Bool) (K : Act → Prop) : List Oper → Act → Prop
  | [], a => K a
  | o :: rest, a => if Region.wanted o (yielded ops a.tmps) then ∃ v, GL.Oper.q P C x o a v ∧ wpQ P ops C x K rest (a.put o.dst v) else wpQ P ops C x K rest (a.put o.dst undef)

theorem q_quiet {P : Program} {C : World → Prop} {x : Bool} {o : Oper} {a : Act} {v : Value} (h : GL.Oper.q P C x o a v) : ∀ w, C w → o.quietAt P a C w v := by
  unfold Oper.q at h
  intro w hw
  split at h
  · unfold Oper.quietAt
    rw [h w]
    exact ⟨rfl, rfl⟩
  · unfold Oper.quietAt
    rw [h w hw]
    exact ⟨rfl, rfl⟩
  · exact h w hw

theorem wpQuiet_of_q {P : Program} {ops : Array Oper} {C : World → Prop} {x : Bool} {K : Act → Prop} : ∀ (l : List Oper) (a : Act), wpQ P ops C x K l a → wpQuiet P ops C K l a
  | [], _, h => h
  | o :: l, a, h => by
    unfold wpQ at h
    unfold wpQuiet
    split
    · rename_i hw
      rw [if_pos hw] at h
      obtain ⟨v, h1, h2⟩ := h
      exact ⟨v, q_quiet h1, wpQuiet_of_q l _ h2⟩
    · rename_i hw
      rw [if_neg hw] at h
      exact wpQuiet_of_q l _ h

theorem evR_q {P : Program} {ops : Array Oper} {C : World → Prop} {x : Bool} {K : Act → Prop} {n : Nat} :
    ∀ (l : List Oper) (orc : List (Option Value)) (ρ ρ' : Env) (obs : List Ob) (a : Act), evR P ops l orc ρ = some (ρ', obs) → (l.all fun o => match o.dst with | some d => decide (d < n) | none => true) = true →
      (∀ b ∈ obs, b.holds P C x) → FrD Ds n ρ a → (∀ a', FrD Ds n ρ' a' → K a') → wpQ P ops C x K l a
  | [], orc, ρ, ρ', obs, a, he, _, _, hF, hK => by
    simp [evR] at he
    exact hK a (he.1 ▸ hF)
  | o :: os, orc, ρ, ρ', obs, a, he, hd, hob, hF, hK => by
    simp only [evR] at he
    split at he
    · simp at he
    · rename_i ctx hctx
      split at he
      · rename_i hcl
        obtain ⟨hw1, hw2⟩ := wanted_met hF hctx
        unfold dstFree at hcl
        split at hcl
        case _ d hdst =>
          simp only [Bool.and_eq_true] at hcl
          have hdn : d < n := by
            have := List.all_eq_true.1 hd o (by simp)
            rw [hdst] at this
            simpa using this
          have hctxd : ∀ g ∈ ctx, g.1 ≠ d := fun g hg he => by
            have := List.all_eq_true.1 hcl.2 g hg
            rw [he] at this
            simp at this
          have hd' : (os.all fun o => match o.dst with | some d => decide (d < n) | none => true) = true := by
            simp only [List.all_cons, Bool.and_eq_true] at hd; exact hd.2
          have step : ∀ (v : Value) (obs' : List Ob) (orc' : List (Option Value)), evR P ops os orc' (ρ.put o.dst ctx v) = some (ρ', obs') → (∀ b ∈ obs', b.holds P C x) →
              (met a ctx → (∀ g ∈ ctx, ∀ e, ρ.find g.1 = some e → met a e.gs) → GL.Oper.q P C x o a v) → wpQ P ops C x K (o :: os) a := by
            intro v obs' orc' hev hobs hq
            unfold wpQ
            split
            · rename_i hw
              obtain ⟨hm, hmc⟩ := hw1 hw
              refine ⟨v, hq hm hmc, ?_⟩
              refine evR_q os orc' _ ρ' obs' _ hev hd' hobs ?_ hK
              rw [hdst]
              exact hF.put hdn hcl.1 hctxd (fun _ => rfl) (fun hn => absurd hm hn)
            · rename_i hw
              have hm := hw2 (by simpa using hw)
              refine evR_q os orc' _ ρ' obs' _ hev hd' hobs ?_ hK
              rw [hdst]
              exact hF.put hdn hcl.1 hctxd (fun h => absurd h hm) (fun _ => rfl)
          split at he
          · rename_i v hv
            split at he
            · rename_i hok
              split at he
              · rename_i hs hhs
                split at he
                · rename_i ρ2 obs2 hev
                  simp at he
                  obtain ⟨rfl, rfl⟩ := he
                  refine step v obs2 _ hev (fun b hb => hob b (by simp [hb])) fun hm hmc => ?_
                  have h1 := hob ⟨wfree o, hs, execOp (ρ.σ ctx) o, v⟩ (by simp) (hypsOf_met hF hhs hm hmc)
                  unfold Oper.q Oper.quietAt
                  rw [execOp_env hF hm hok]
                  simp only at h1
                  generalize wfree o = fb at h1 ⊢
                  cases fb <;> cases x <;> exact h1
                · simp at he
              · simp at he
            · simp at he
          · split at he
            · rename_i v hv
              refine step v obs _ he hob fun hm _ => ?_
              unfold Oper.q Oper.quietAt
              split
              · exact fun w => evVal_ok hF hm hv w
              · exact fun w _ => evVal_ok hF hm hv w
              · intro w _
                rw [evVal_ok hF hm hv w]
                exact ⟨rfl, rfl⟩
            · simp at he
        case _ => simp at hcl
      · simp at he

theorem evR_quiet {P : Program} {ops : Array Oper} {C : World → Prop} {K : Act → Prop} {n : Nat} (l : List Oper) (orc : List (Option Value)) (ρ ρ' : Env) (obs : List Ob) (a : Act) (hev : evR P ops l orc ρ = some (ρ', obs))
    (hd : (l.all fun o => match o.dst with | some d => decide (d < n) | none => true) = true) (hob : ∀ b ∈ obs, b.holds P C false) (hF : FrD Ds n ρ a) (hK : ∀ a', FrD Ds n ρ' a' → K a') : wpQuiet P ops C K l a :=
  wpQuiet_of_q l a (evR_q l orc ρ ρ' obs a hev hd hob hF hK)

/-- Quiet operations ahead of others, in the text's order. -/
theorem wpList_of_quiet {P : Program} {ops : Array Oper} {C : World → Prop} {Q : Exit → Act → World → Prop} {rest : List Oper} :
    ∀ (l : List Oper) (a : Act) (w : World), C w → wpQuiet P ops C (fun a' => ∀ w', C w' → listR P ops Q rest a' w') l a → listR P ops Q (l ++ rest) a w
  | [], a, w, hw, h => h w hw
  | o :: l, a, w, hw, h => by
    unfold wpQuiet at h
    rw [List.cons_append]
    unfold listR
    split
    · rename_i hwt
      rw [if_pos hwt] at h
      exact (oR_of_quiet hw (fun a' w' hw' hk => wpList_of_quiet l a' w' hw' hk) h)
    · rename_i hwt
      rw [if_neg hwt] at h
      exact wpList_of_quiet l _ w hw h

def dstOk (n : Nat) (l : List Oper) : Bool := l.all fun o => match o.dst with | some d => decide (d < n) | none => true

/-- A whole region that is quiet, whichever order it may draw. -/
theorem region_ev {P : Program} {id : Nat} {l : List Oper} {draw : Bool} {C : World → Prop} {Q : Exit → Act → World → Prop} {n : Nat} {a : Act} {w : World} {ρ ρ' : Env} {obs : List Ob}
    (orc : List (Option Value)) (hfol : P.follows .mixedOrders = true) (hlex : (!draw || Region.lexB .any l.toArray) = true) (hdst : dstOk n l = true)
    (hF : FrD Ds n ρ a) (hC : C w) (hdraw : ∀ w, C w → C { w with drawn := w.drawn + 1 })
    (hev : evR P l.toArray l orc ρ = some (ρ', obs)) (hob : ∀ b ∈ obs, b.holds P C false)
    (hK : ∀ a' w', FrD Ds n ρ' a' → C w' → Q .normal a' w') : (Code.region id l.toArray draw).wpIn (RF ro) 9 P Q a w := by
  cases draw with
  | false =>
    refine regionR_lit ?_
    have := wpList_of_quiet (P := P) (ops := l.toArray) (C := C) (Q := Q) (rest := []) l a w hC
      (evR_quiet (P := P) (ops := l.toArray) (C := C) l orc ρ ρ' obs a hev hdst hob hF fun a' hF' w' hw' => hK a' w' hF' hw')
    simpa using this
  | true =>
    simp at hlex
    refine regionR_quiet (C := C) hfol hlex (hdraw w hC) ?_
    exact evR_quiet (P := P) (ops := l.toArray) (C := C) l orc ρ ρ' obs a hev hdst hob hF fun a' hF' w' hw' => hK a' w' hF' hw'

/-- A run of quiet operations at the head of a plain region's list. -/
theorem list_ev {P : Program} {ops : Array Oper} {C : World → Prop} {Q : Exit → Act → World → Prop} {n : Nat} {a : Act} {w : World} {ρ ρ' : Env} {obs : List Ob} {rest : List Oper} (l : List Oper)
    (orc : List (Option Value)) (hdst : dstOk n l = true) (hF : FrD Ds n ρ a) (hC : C w)
    (hev : evR P ops l orc ρ = some (ρ', obs)) (hob : ∀ b ∈ obs, b.holds P C false)
    (hK : ∀ a' w', FrD Ds n ρ' a' → C w' → listR P ops Q rest a' w') : listR P ops Q (l ++ rest) a w :=
  wpList_of_quiet l a w hC (evR_quiet (P := P) (ops := ops) (C := C) l orc ρ ρ' obs a hev hdst hob hF fun a' hF' w' hw' => hK a' w' hF' hw')

/-! ### A region that draws its order, with operations that do something: the quiet ones may be taken first -/

section
variable {P : Program} {ops : Array Oper} {Q : Exit → Act → World → Prop} {S : World → Prop}

def Closed (ops : Array Oper) (listed : Array Bool) : Prop := ∀ j o, ops[j]? = some o → listed.getD j false = true → ∀ e ∈ o.after, Region.binds .any e = true → listed.getD e.on false = true

theorem Closed.set {listed : Array Bool} (hc : Closed ops listed) {i : Nat} (hi : i ∈ Region.ready .any ops listed) : Closed ops (listed.setIfInBounds i true) := by
  intro j o ho hl e he hb
  obtain ⟨_, oi, hoi, hall⟩ := mem_ready.1 hi
  by_cases hij : i = j
  · subst hij
    rw [hoi] at ho
    cases ho
    exact getD_set_true (hall e he hb)
  · rw [getD_set_ne false hij] at hl
    exact getD_set_true (hc j o ho hl e he hb)

end

end Go.GL
