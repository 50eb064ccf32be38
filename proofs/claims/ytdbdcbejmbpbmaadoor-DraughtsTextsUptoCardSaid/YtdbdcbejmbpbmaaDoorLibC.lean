/-
  A small library of our own: what single operations do: an index, a load, a cut, a make, a store, an append, a call.
-/
import Derived.Test.YtdbdcbejmbpbmaaDoorLibB
namespace Go.GL
open Go Go.RowKit
variable {Ds : List Nat} {ro : Option Nat}

def vS (s : Sem Value) : Sem Next := do pure (.value (← s))
def uS (s : Sem Unit) : Sem Next := do s; pure .skip
def sAddr (A : Option Addr) (i : Int) : Addr := (A.getD default).add i.toNat
def geti (l : List Int) (i : Int) : Int := l.getD i.toNat 0
def asrt {α : Type} (p : Prop) [Decidable p] (k : Option α) : Option α := if p then k else none
def cut {α : Type} (xs : List α) (lo hi : Int) : List α := (xs.drop lo.toNat).take (hi - lo).toNat

theorem add_zero (a : Addr) : a.add 0 = a := rfl

theorem asrt_some {α : Type} {p : Prop} [Decidable p] {k : Option α} {r : α} (h : asrt p k = some r) : p ∧ k = some r := by
  unfold asrt at h
  split at h
  · exact ⟨‹_›, h⟩
  · simp at h

theorem cut_length {α : Type} {xs : List α} {lo hi : Int} (h0 : 0 ≤ lo) (h1 : lo ≤ hi) (h2 : hi ≤ xs.length) : (cut xs lo hi).length = (hi - lo).toNat := by
  unfold cut
  rw [List.length_take, List.length_drop]
  omega

section
variable {P : Program} {C : World → Prop} {hyps : List (Bool × Bool)} {t e : TypeId} {inf : TypeInfo}

theorem vS_run {s : Sem Value} {v : Value} {w w' : World} (h : s.run P w = .ok v w') : (vS s).run P w = .ok (.value v) w' := by simp [vS, h]
theorem uS_run {s : Sem Unit} {w w' : World} (h : s.run P w = .ok () w') : (uS s).run P w = .ok .skip w' := by simp [uS, h]

theorem Ob.same {x : Bool} {s : Sem Value} {v : Value} (h : (∀ y ∈ hyps, y.1 = y.2) → ∀ w, C w → s.run P w = .ok v w) : Ob.holds P C x ⟨false, hyps, vS s, v⟩ := by
  intro hy
  cases x with
  | true => exact fun w hw => vS_run (h hy w hw)
  | false =>
    intro w hw
    rw [vS_run (h hy w hw)]
    exact ⟨rfl, rfl⟩
theorem Ob.any {x : Bool} {s : Sem Value} {v : Value} (h : (∀ y ∈ hyps, y.1 = y.2) → ∀ w, s.run P w = .ok v w) : Ob.holds P C x ⟨true, hyps, vS s, v⟩ := by
  intro hy
  exact fun w => vS_run (h hy w)

theorem Rd.some {w : World} {B : Nat} {A : Option Addr} {xs : List Value} (h : Rd w B A xs) (hl : 0 < xs.length) : A.isSome = true := by
  obtain ⟨ad, rfl, _⟩ := h 0 xs[0] (List.getElem?_eq_getElem hl)
  rfl

theorem run_index {A : Option Addr} {n c : Nat} {k : IntKind} {i : Int} (ht : P.underlying t = some (.slice e)) (hi : P.info? e = some inf) (hs : inf.size = 1) (h0 : 0 ≤ i) (h1 : i < n) (hA : A.isSome = true) (w : World) :
    (Instr.indexAt t (.slice A n c) (.int k i)).run P w = .ok (.pointer (some (sAddr A i))) w := by
  cases A with
  | none => simp at hA
  | some a =>
    simp [Instr.indexAt, run_underlying ht, asIntOf, h0, h1, sizeOf, typeInfo, hi, hs, sAddr]

theorem ob_index {x : Bool} {A : Option Addr} {n c : Nat} {k : IntKind} {i : Int} (ht : P.underlying t = some (.slice e)) (hi : P.info? e = some inf) (hs : inf.size = 1)
    (hA : 0 < n → A.isSome = true) (h : (∀ y ∈ hyps, y.1 = y.2) → 0 ≤ i ∧ i < n) : Ob.holds P C x ⟨true, hyps, vS (Instr.indexAt t (.slice A n c) (.int k i)), .pointer (some (sAddr A i))⟩ :=
  Ob.any fun hy w => by
    obtain ⟨h0, h1⟩ := h hy
    exact run_index ht hi hs h0 h1 (hA (by omega)) w

theorem run_load {a : Addr} {v : Value} {w : World} (hag : runPure P (isAgg t) = some false) (hc : w.cell? a = some v) : (Instr.loadAt t (.pointer (some a))).run P w = .ok v w := by
  simp [Instr.loadAt, Instr.sureAddr, loadVar, runPure_run _ hag, load, Sem.run, hc]

theorem ob_load {x : Bool} {a : Addr} {v : Value} (hag : runPure P (isAgg t) = some false) (h : (∀ y ∈ hyps, y.1 = y.2) → ∀ w, C w → w.cell? a = some v) : Ob.holds P C x ⟨false, hyps, vS (Instr.loadAt t (.pointer (some a))), v⟩ :=
  Ob.same fun hy w hw => run_load hag (h hy w hw)

/-- A cut of a slice: 's[lo:hi]', each bound given or not. -/
def cutAddr (A : Option Addr) (c : Nat) (lo : Int) : Option Addr := if c = lo.toNat then A else A.map (·.add lo.toNat)

theorem Rd.cut {w : World} {B c : Nat} {A : Option Addr} {l : List Value} {lo hi : Int} (h : Rd w B A l) (h0 : 0 ≤ lo) (h1 : lo ≤ hi) (h2 : hi ≤ l.length) (h3 : l.length ≤ c) : Rd w B (cutAddr A c lo) (cut l lo hi) := by
  intro i u hu
  have hil : i < (GL.cut l lo hi).length := (List.getElem?_eq_some_iff.1 hu).1
  rw [cut_length h0 h1 h2] at hil
  unfold GL.cut at hu
  rw [List.getElem?_take, if_pos hil, List.getElem?_drop] at hu
  obtain ⟨ad, rfl, hb, hc⟩ := h _ u hu
  unfold cutAddr
  rw [if_neg (by omega)]
  exact ⟨ad.add lo.toNat, rfl, by rw [block_add]; exact hb, by rw [add_add]; exact hc⟩

theorem cut_map {α β : Type} (f : α → β) (l : List α) (lo hi : Int) : cut (l.map f) lo hi = (cut l lo hi).map f := by simp [cut, List.map_drop, List.map_take]

theorem run_enter {f : FuncId} {fn : Func} (hf : P.funcs[f]? = some fn) (hname : (fn.name == "runtime.NumGoroutine") = false) (hb : fn.body.isSome = true) (args : Array Value) (w : World) :
    (callFunc f args).run P w = .ok (.enter f args) w := by
  have h1 : fn.name ≠ "runtime.NumGoroutine" := by simpa using hname
  obtain ⟨c, hc⟩ := Option.isSome_iff_exists.1 hb
  simp [callFunc, hf, h1, hc]

/-- A quiet call. -/
theorem ob_call {f : FuncId} {fn : Func} {args : Array Value} {v : Value} (hf : P.funcs[f]? = some fn) (hname : (fn.name == "runtime.NumGoroutine") = false) (hb : fn.body.isSome = true)
    (h : (∀ y ∈ hyps, y.1 = y.2) → ∀ w, C w → Calls P f args w fun e w' => e = .returned v ∧ C w') : Ob.holds P C false ⟨false, hyps, callFunc f args, v⟩ := by
  intro hy w hw
  rw [run_enter hf hname hb]
  exact ⟨rfl, h hy w hw⟩
end

section
variable {P : Program} {w0 w : World} {B : Nat} {l r ps : List HP} {t e : TypeId} {inf : TypeInfo}

theorem Sep.nil (h : Sep w0 B w ps) (e : TypeId) : Sep w0 B w (own e (.slice none 0 0) [] :: ps) :=
  h.add (Ex.refl w) (f := []) ⟨World.ownsRow_nil w 0 e 1, by simp [Value.ownBlock]⟩ (by simp)

theorem own_block {e : TypeId} {v : Value} {xs : List Value} {w : World} (h : w.ownsRow 0 e 1 v xs.length xs) : ∀ k ∈ v.ownBlock.toList, k < w.heap.size := by
  intro k hk
  exact (h.lt k (by simpa using hk)).2

theorem own_form {e : TypeId} {v : Value} {n : Nat} {xs : List Value} {w : World} (h : w.ownsRow 0 e 1 v n xs) : ∃ A c, v = .slice A n c ∧ n ≤ c := by
  rcases h.2 with ⟨rfl, rfl⟩ | ⟨g, cap, cur, rfl, _, _, h1, _⟩
  · exact ⟨none, 0, rfl, Nat.le_refl _⟩
  · exact ⟨_, cap, rfl, h1⟩

theorem Sep.cap {A : Option Addr} {n c : Nat} {xs : List Value} (h : Sep w0 B w (l ++ own e (.slice A n c) xs :: r)) : n ≤ c := by
  obtain ⟨f, ⟨hf, _⟩, _⟩ := h.get
  obtain ⟨A', c', hv, hc⟩ := own_form hf
  injection hv with _ h2 h3
  omega

theorem maxLen_big {n : Nat} (h : (n : Int) ≤ bigN) : n ≤ maxLen := by unfold bigN at h; unfold maxLen; omega

theorem append_nilsrc (ht : P.underlying t = some (.slice e)) (hi : P.info? e = some inf) {v : Value} {n : Nat} {xs : List Value} (hown : w.ownsRow 0 e 1 v n xs) (ty : TypeId) (c : Nat) :
    (Builtin.append_ #[t, t] ty #[v, .slice none 0 c]).run P w = .ok v w := by
  rcases hown.2 with ⟨rfl, rfl⟩ | ⟨g, cap, cur, rfl, _, _, hnc, _⟩
  · simp [Builtin.append_, run_underlying ht, sizeOf, typeInfo, hi, Builtin.lenOf, Builtin.firstCells]
  · simp [Builtin.append_, run_underlying ht, sizeOf, typeInfo, hi, Builtin.lenOf, Builtin.firstCells, hnc, storeCells]

/-- append(s, x...), s a row of the call's own. -/
theorem run_app {v : Value} {xs ys : List Value} {A : Option Addr} {m c : Nat} (hS : Sep w0 B w (l ++ own e v xs :: r)) (hr : Rd w w.heap.size A ys) (hm : m = ys.length) (ty : TypeId) {z : Value}
    (ht : P.underlying t = some (.slice e)) (hi : P.info? e = some inf) (hz : inf.zero = some z) (hs : inf.size = 1) (hby : inf.bytes ≤ 8) (hz1 : z.cells = #[z]) (h1 : ∀ u ∈ ys, u.oneCell' = true) (hl : (xs.length : Int) + ys.length ≤ bigN) :
    ∃ A' c' w', (vS (Builtin.append_ #[t, t] ty #[v, .slice A m c])).run P w = .ok (.value (.slice A' (xs ++ ys).length c')) w' ∧ Sep w0 B w' (l ++ own e (.slice A' (xs ++ ys).length c') (xs ++ ys) :: r) := by
  subst hm
  obtain ⟨f, ⟨hf, hf2⟩, hfb⟩ := hS.get
  cases A with
  | none =>
    have hy : ys = [] := by
      cases ys with
      | nil => rfl
      | cons y ys => obtain ⟨ad, h, _⟩ := hr 0 y rfl; cases h
    subst hy
    obtain ⟨A', c', rfl, _⟩ := own_form hf
    refine ⟨A', c', w, ?_, ?_⟩
    · have := append_nilsrc ht hi hf ty c
      simpa using vS_run this
    · simpa using hS
  | some a =>
    have hcells : ∀ j u, ys[j]? = some u → w.cell? (a.add j) = some u := fun j u hu => by
      obtain ⟨ad, h, _, hc⟩ := hr j u hu
      injection h with h
      subst h
      exact hc
    have hb : (xs.length + ys.length) * inf.bytes ≤ 140737488355328 := by
      have h2 : xs.length + ys.length ≤ 17592186044416 := by unfold bigN at hl; omega
      calc (xs.length + ys.length) * inf.bytes ≤ 17592186044416 * 8 := Nat.mul_le_mul h2 hby
        _ ≤ 140737488355328 := by decide
    obtain ⟨v', w', hrun, hown, hg, _, hbl⟩ := run_append_own_at (P := P) w 0 t ty e inf z 1 inf.bytes ht hi hz hs rfl (by rw [hz1]; rfl) (by omega) v xs.length xs hf a ys.length c ys (by simp) hcells h1
      (maxLen_big (by rw [Int.natCast_add]; exact hl)) hb (Nat.zero_le _)
    have hown' : w'.ownsRow 0 e 1 v' (xs ++ ys).length (xs ++ ys) := by rw [List.length_append]; exact hown
    obtain ⟨A', c', rfl, _⟩ := own_form hown'
    refine ⟨A', c', w', vS_run hrun, hS.upd fun f' hf' hb' => ⟨_, ⟨hown', rfl⟩, ?_, ?_, own_block hown'⟩⟩
    · rw [hf'.2]; exact Ex.of_grown hg
    · intro k hk
      rw [hf'.2]
      rcases hbl with h | h
      · rw [h] at hk; exact .inl hk
      · rw [h] at hk
        simp at hk
        exact .inr (by omega)

/-- A new block, as a row. -/
theorem Sep.lit (hS : Sep w0 B w ps) (e : TypeId) (cs : Array Value) (n : Nat) (hn : cs.size = n) (hm : n ≤ 4096) : Sep w0 B (w.alloc (.cells cs e)) (own e (.slice (some ⟨w.heap.size, 0, none⟩) n n) cs.toList :: ps) := by
  refine hS.add (by simpa using Ex.of_grown (World.grownBy_alloc w _ none)) (f := [w.heap.size]) ⟨?_, by simp [Value.ownBlock]⟩ ?_
  · have := World.ownsRow_lit (base := 0) (e := e) (size := 1) w cs n (Nat.zero_le _) (by unfold maxLen; omega) (by omega)
    simpa [hn] using this
  · intro k hk
    simp at hk
    subst hk
    simp

/-- A new block, known whole. -/
theorem Sep.box (hS : Sep w0 B w ps) (e : TypeId) (cs : Array Value) : Sep w0 B (w.alloc (.cells cs e)) (blk w.heap.size e cs :: ps) := by
  refine hS.add (by simpa using Ex.of_grown (World.grownBy_alloc w _ none)) (f := [w.heap.size]) ⟨heap_alloc_new w _, rfl⟩ ?_
  intro k hk
  simp at hk
  subst hk
  simp

theorem Sep.cell {g : Nat} {cs : Array Value} {i : Nat} {v : Value} (hS : Sep w0 B w (l ++ blk g t cs :: r)) (hv : cs[i]? = some v) : w.cell? ⟨g, i, none⟩ = some v := by
  obtain ⟨f, ⟨hf, _⟩, _⟩ := hS.get
  rw [cell_of_row w g i cs t (0, 0) hf, hv]

/-- A store into a block that is known whole. -/
theorem run_put {g : Nat} {cs : Array Value} {i : Nat} {u : Value} (hS : Sep w0 B w (l ++ blk g e cs :: r)) (hi : P.info? t = some inf) (hs : inf.size = 1) (h1 : u.oneCell' = true) (hl : i < cs.size) :
    ∃ w', (uS (Instr.storeAt t (.pointer (some ⟨g, i, none⟩)) u)).run P w = .ok .skip w' ∧ Sep w0 B w' (l ++ blk g e (cs.setIfInBounds i u) :: r) := by
  obtain ⟨f, ⟨hf, hf2⟩, hfb⟩ := hS.get
  have hcell : w.cell? ⟨g, i, none⟩ = some cs[i] := by rw [cell_of_row w g i cs e (0, 0) hf, Array.getElem?_eq_getElem hl]
  have hfr : w.frozen? ⟨g, i, none⟩ = false := frozen_of_row w g i cs e hf
  refine ⟨w.setCell ⟨g, i, none⟩ u, ?_, ?_⟩
  · refine uS_run ?_
    cases u <;> first
      | (simp [Value.oneCell'] at h1; done)
      | simp [Instr.storeAt, Instr.sureAddr, storeVar, storeCells, sizeOf, typeInfo, hi, hs, Value.cells, add_zero, store, Sem.run, hcell, hfr]
  · refine hS.upd fun f' hf' hb' => ⟨[g], ⟨heap_setCell_same w g i cs e u hf, rfl⟩, ?_, ?_, ?_⟩
    · rw [hf'.2]
      exact ⟨rfl, rfl, rfl, by simp, fun k _ hk => heap_setCell_other w ⟨g, i, none⟩ k u (fun h => hk (by simp [h]))⟩
    · intro k hk; rw [hf'.2]; exact .inl hk
    · intro k hk
      have := hb' k (by rw [hf'.2]; exact hk)
      simpa using this.2
end

/-! ### The rules for code, over Sep -/
section
variable {P : Program} {Q : Exit → Act → World → Prop} {a : Act} {w0 w : World} {B n : Nat} {ρ : Env} {ps : List HP}

theorem reg {id : Nat} {l : List Oper} {draw : Bool} {y : Code} (obs : List Ob) (orc : List (Option Value)) (ts : List Nat) (τ : Env) (hF : FrD Ds n ρ a) (hS : Sep w0 B w ps)
    (hfol : P.follows .mixedOrders = true) (hlex : (!draw || Region.lexB .any l.toArray) = true) (hdst : dstOk n l = true)
    (hev : (evR P l.toArray l orc ρ).map (fun x => (x.1.sel ts, x.2)) = some (τ, obs)) (hob : ∀ b ∈ obs, b.holds P (fun w' => Sep w0 B w' ps) false)
    (hK : ∀ a' w', FrD Ds n τ a' → Sep w0 B w' ps → y.wpIn (RF ro) 9 P Q a' w') : (Code.seq (Code.region id l.toArray draw) y).wpIn (RF ro) 9 P Q a w :=
  seq_region (C := fun w' => Sep w0 B w' ps) orc ts τ hF hS (fun _ h => h.drew) hfol hlex hdst hev hob hK

theorem reg1 {id : Nat} {l : List Oper} {draw : Bool} (obs : List Ob) (orc : List (Option Value)) (ts : List Nat) (τ : Env) (hF : FrD Ds n ρ a) (hS : Sep w0 B w ps)
    (hfol : P.follows .mixedOrders = true) (hlex : (!draw || Region.lexB .any l.toArray) = true) (hdst : dstOk n l = true)
    (hev : (evR P l.toArray l orc ρ).map (fun x => (x.1.sel ts, x.2)) = some (τ, obs)) (hob : ∀ b ∈ obs, b.holds P (fun w' => Sep w0 B w' ps) false)
    (hK : ∀ a' w', FrD Ds n τ a' → Sep w0 B w' ps → Q .normal a' w') : (Code.region id l.toArray draw).wpIn (RF ro) 9 P Q a w :=
  one_region (C := fun w' => Sep w0 B w' ps) orc ts τ hF hS (fun _ h => h.drew) hfol hlex hdst hev hob hK

/-- Operation number 'k' of a region's list comes up. -/
def wpAt (P : Program) (arr : Array Oper) (l : List Oper) (Q : Exit → Act → World → Prop) (k : Nat) (a : Act) (w : World) : Prop := listR P arr Q (l.drop k) a w

def stepOf (l : List Oper) (k : Nat) (ρ : Env) : Option (Option Nat × Sem Next) :=
  match l[k]? with
  | some o => if o.guard.isNone && okOps ρ [] o then some (o.dst, execOp (ρ.σ []) o) else none
  | none => none

theorem seqR {id : Nat} {l : List Oper} {y : Code} (h : wpAt P l.toArray l (Exit.then (y.wpIn (RF ro) 9 P Q) Q) 0 a w) : (Code.seq (Code.region id l.toArray false) y).wpIn (RF ro) 9 P Q a w := wpIn_seq (regionR_lit h)
theorem oneR {id : Nat} {l : List Oper} (h : wpAt P l.toArray l Q 0 a w) : (Code.region id l.toArray false).wpIn (RF ro) 9 P Q a w := regionR_lit h

theorem at_run {arr : Array Oper} {l : List Oper} {k : Nat} (m : Nat) (obs : List Ob) (orc : List (Option Value)) (ts : List Nat) (τ : Env) (hF : FrD Ds n ρ a) (hS : Sep w0 B w ps) (hdst : dstOk n ((l.drop k).take m) = true)
    (hev : (evR P arr ((l.drop k).take m) orc ρ).map (fun x => (x.1.sel ts, x.2)) = some (τ, obs)) (hob : ∀ b ∈ obs, b.holds P (fun w' => Sep w0 B w' ps) false)
    (hK : ∀ a' w', FrD Ds n τ a' → Sep w0 B w' ps → wpAt P arr l Q (k + m) a' w') : wpAt P arr l Q k a w := by
  unfold wpAt
  cases hx : evR P arr ((l.drop k).take m) orc ρ with
  | none => rw [hx] at hev; simp at hev
  | some x =>
    rw [hx] at hev
    simp at hev
    obtain ⟨ρ1, obs1⟩ := x
    simp only at hev
    obtain ⟨e1, e2⟩ := hev
    rw [← List.take_append_drop m (l.drop k)]
    refine list_run (C := fun w' => Sep w0 B w' ps) _ orc ρ1 hF hS hdst hx (e2 ▸ hob) fun a' w' h1 h2 => ?_
    have := hK a' w' (h1.weak ts e1) h2
    unfold wpAt at this
    rw [List.drop_drop]
    exact this

theorem stepOf_some {l : List Oper} {k : Nat} {d : Option Nat} {s : Sem Next} (h : stepOf l k ρ = some (d, s)) :
    ∃ o, l.drop k = o :: l.drop (k + 1) ∧ o.guard = none ∧ okOps ρ [] o = true ∧ o.dst = d ∧ execOp (ρ.σ []) o = s := by
  unfold stepOf at h
  split at h
  · rename_i o ho
    split at h
    · rename_i hg
      simp only [Bool.and_eq_true, Option.isNone_iff_eq_none] at hg
      simp only [Option.some.injEq, Prod.mk.injEq] at h
      obtain ⟨hk, hko⟩ := List.getElem?_eq_some_iff.1 ho
      exact ⟨o, by rw [List.drop_eq_getElem_cons hk, hko], hg.1, hg.2, h.1, h.2⟩
    · simp at h
  · simp at h

theorem at_do {arr : Array Oper} {l : List Oper} {k d : Nat} {s : Sem Next} {v : Value} {w' : World} (hF : FrD Ds n ρ a) (hex : stepOf l k ρ = some (some d, s)) (hcl : (ρ.clear d && decide (d < n)) = true)
    (hrun : s.run P w = .ok (.value v) w') (hK : ∀ a', FrD Ds n (ρ.put (some d) [] v) a' → wpAt P arr l Q (k + 1) a' w') : wpAt P arr l Q k a w := by
  obtain ⟨o, h1, h2, h3, h4, h5⟩ := stepOf_some hex
  simp only [Bool.and_eq_true, decide_eq_true_eq] at hcl
  unfold wpAt
  rw [h1]
  exact list_do h2 h4 hF h3 hcl.1 hcl.2 (h5 ▸ hrun) hK

theorem at_skip {arr : Array Oper} {l : List Oper} {k : Nat} {s : Sem Next} {w' : World} (hF : FrD Ds n ρ a) (hex : stepOf l k ρ = some (none, s))
    (hrun : s.run P w = .ok .skip w') (hK : wpAt P arr l Q (k + 1) a w') : wpAt P arr l Q k a w := by
  obtain ⟨o, h1, h2, h3, h4, h5⟩ := stepOf_some hex
  unfold wpAt
  rw [h1]
  refine listR_plain h2 fun K hk => ?_
  unfold oR
  rw [execOp_env hF (fun g hg => by cases hg) h3, h5, hrun, upR_skip]
  refine hk _ _ ?_
  rw [h4]
  exact hK

theorem at_call {arr : Array Oper} {l : List Oper} {k d : Nat} {f : FuncId} {fn : Func} {args : Array Value} {R : Value → World → Prop} (hF : FrD Ds n ρ a) (hex : stepOf l k ρ = some (some d, callFunc f args)) (hcl : (ρ.clear d && decide (d < n)) = true)
    (hf : P.funcs[f]? = some fn) (hname : (fn.name == "runtime.NumGoroutine") = false) (hb : fn.body.isSome = true)
    (hc : Calls P f args w fun e w' => ∃ v, e = .returned v ∧ R v w')
    (hK : ∀ v a' w', R v w' → FrD Ds n (ρ.put (some d) [] v) a' → wpAt P arr l Q (k + 1) a' w') : wpAt P arr l Q k a w := by
  obtain ⟨o, h1, h2, h3, h4, h5⟩ := stepOf_some hex
  simp only [Bool.and_eq_true, decide_eq_true_eq] at hcl
  unfold wpAt
  rw [h1]
  exact list_call h2 h4 hF h3 hcl.1 hcl.2 (h5 ▸ run_enter hf hname hb args w) hc hK

theorem at_end {arr : Array Oper} {l : List Oper} {k : Nat} (ts : List Nat) (τ : Env) (hF : FrD Ds n ρ a) (hk : l.drop k = []) (he : ρ.sel ts = τ) (hK : FrD Ds n τ a → Q .normal a w) : wpAt P arr l Q k a w := by
  unfold wpAt
  rw [hk]
  exact hK (hF.weak ts he)

end

theorem Sep.at_ {w0 w : World} {B : Nat} {ps : List HP} {p : HP} (h : Sep w0 B w ps) (i : Nat) (he : ps[i]? = some p) : Sep w0 B w (ps.take i ++ p :: ps.drop (i + 1)) := by
  obtain ⟨hi, hp⟩ := List.getElem?_eq_some_iff.1 he
  rw [← hp, List.getElem_cons_drop, List.take_append_drop]
  exact h

/-! ### Some of the objects, in another order -/
theorem SepL.fn {w : World} {ps : List HP} {u : List Nat} (h : SepL w ps u) : ∃ F : Nat → List Nat, (∀ (i : Nat) (p : HP), ps[i]? = some p → p.at_ w (F i)) ∧ (∀ i j k, i ≠ j → i < ps.length → j < ps.length → k ∈ F i → k ∉ F j) ∧ ∀ i k, i < ps.length → k ∈ F i → k ∈ u := by
  induction h with
  | nil => exact ⟨fun _ => [], by simp, by simp, by simp⟩
  | @cons p ps f u hp _ hd ih =>
    obtain ⟨F, h1, h2, h3⟩ := ih
    refine ⟨fun i => match i with | 0 => f | i + 1 => F i, ?_, ?_, ?_⟩
    · intro i q hq
      cases i with
      | zero => simp at hq; subst hq; exact hp
      | succ i => exact h1 i q (by simpa using hq)
    · intro i j k hij hi hj hk
      cases i with
      | zero =>
        cases j with
        | zero => exact absurd rfl hij
        | succ j => exact fun hk' => hd k hk (h3 j k (by simpa using hj) hk')
      | succ i =>
        cases j with
        | zero => exact fun hk' => hd k hk' (h3 i k (by simpa using hi) hk)
        | succ j => exact h2 i j k (by omega) (by simpa using hi) (by simpa using hj) hk
    · intro i k hi hk
      cases i with
      | zero => exact List.mem_append_left _ hk
      | succ i => exact List.mem_append_right _ (h3 i k (by simpa using hi) hk)

theorem SepL.of_fn {w : World} {ps : List HP} {F : Nat → List Nat} (h1 : ∀ (i : Nat) (p : HP), ps[i]? = some p → p.at_ w (F i)) (h2 : ∀ i j k, i ≠ j → i < ps.length → j < ps.length → k ∈ F i → k ∉ F j) :
    ∀ is : List Nat, is.Nodup → ∃ v, SepL w (is.filterMap (ps[·]?)) v ∧ ∀ k ∈ v, ∃ i ∈ is, i < ps.length ∧ k ∈ F i
  | [], _ => ⟨[], .nil, by simp⟩
  | i :: is, hn => by
    obtain ⟨v, hv, hm⟩ := SepL.of_fn h1 h2 is (List.nodup_cons.1 hn).2
    rw [List.filterMap_cons]
    cases hp : ps[i]? with
    | none => exact ⟨v, hv, fun k hk => by obtain ⟨j, hj, hx⟩ := hm k hk; exact ⟨j, by simp [hj], hx⟩⟩
    | some p =>
      have hi : i < ps.length := (List.getElem?_eq_some_iff.1 hp).1
      refine ⟨F i ++ v, .cons (h1 i p hp) hv (fun k hk hk' => ?_), fun k hk => ?_⟩
      · obtain ⟨j, hj, hjl, hkj⟩ := hm k hk'
        have hne : i ≠ j := fun he => (List.nodup_cons.1 hn).1 (he ▸ hj)
        exact h2 i j k hne hi hjl hk hkj
      · rcases List.mem_append.1 hk with h0 | h0
        · exact ⟨i, by simp, hi, h0⟩
        · obtain ⟨j, hj, hx⟩ := hm k h0
          exact ⟨j, by simp [hj], hx⟩

theorem Sep.pick {w0 w : World} {B : Nat} {ps : List HP} (h : Sep w0 B w ps) (is : List Nat) (hn : is.Nodup) : Sep w0 B w (is.filterMap (ps[·]?)) := by
  obtain ⟨u, hs, hu⟩ := h.ex
  obtain ⟨F, h1, h2, h3⟩ := hs.fn
  obtain ⟨v, hv, hm⟩ := SepL.of_fn h1 h2 is hn
  exact ⟨h.base, h.below, v, hv, fun k hk => by obtain ⟨i, _, hi, hki⟩ := hm k hk; exact hu k (h3 i k hi hki)⟩

/-! ### What the models' continuations do -/
inductive Fl (S R : Type) where
  | go (s : S)
  | ret (r : R)
def Fl.k {S R : Type} (K : S → Option R) : Fl S R → Option R
  | .go s => K s
  | .ret r => some r

/-- What the first comes to, the second comes to. -/
def Le {α : Type} (a b : Option α) : Prop := ∀ r, a = some r → b = some r
theorem Le.refl {α : Type} (a : Option α) : Le a a := fun _ h => h
theorem Le.bind {α β : Type} {a b : Option α} {k k' : α → Option β} (h : Le a b) (hk : ∀ x, Le (k x) (k' x)) : Le (a.bind k) (b.bind k') := by
  intro r hr
  obtain ⟨x, hx, hkx⟩ := obind hr
  rw [h x hx]
  exact hk x r hkx
theorem Le.ite {α : Type} {c : Bool} {a b a' b' : Option α} (h : Le a a') (h' : Le b b') : Le (if c then a else b) (if c then a' else b') := by
  cases c
  · exact h'
  · exact h
theorem Le.asrt {α : Type} {p : Prop} [Decidable p] {a b : Option α} (h : Le a b) : Le (GL.asrt p a) (GL.asrt p b) := by
  intro r hr
  obtain ⟨hp, hr⟩ := asrt_some hr
  unfold GL.asrt
  rw [if_pos hp]
  exact h r hr
theorem Le.loop {S R : Type} {step step' : S → Option (St S R)} {n : Nat} {s : S} (h : ∀ s, Le (step s) (step' s)) : Le (loopN step n s) (GL.loop step' s) := by
  intro r hr
  have : ∀ (n : Nat) (s : S), loopN step n s = some r → loopN step' n s = some r := by
    intro n
    induction n with
    | zero => intro s h0; simp [loopN] at h0
    | succ n ih =>
      intro s h0
      unfold loopN at h0 ⊢
      cases hs : step s with
      | none => rw [hs] at h0; simp at h0
      | some o =>
        rw [hs] at h0
        rw [h s o hs]
        cases o with
        | next s' => exact ih s' h0
        | done r' => exact h0
  exact loop_of (this n s hr)

section
variable {α β γ : Type} {p : Prop} [Decidable p] {r : γ} {φ : β → Option γ}
theorem asrt_b {X : Option β} (h : (asrt p X).bind φ = some r) : p ∧ X.bind φ = some r := by
  unfold asrt at h
  split at h
  · exact ⟨‹_›, h⟩
  · simp at h
theorem call_b {o : Option α} {k : α → Option β} (h : (o.bind k).bind φ = some r) : ∃ x, o = some x ∧ (k x).bind φ = some r := by
  cases o with
  | none => simp at h
  | some x => exact ⟨x, rfl, h⟩
theorem assoc_b {o : Option α} {k : α → Option β} (h : (o.bind k).bind φ = some r) : o.bind (fun x => (k x).bind φ) = some r := by
  cases o with
  | none => simp at h
  | some x => exact h
theorem if_t {b : Bool} {X Y : Option β} (h : (if b then X else Y).bind φ = some r) (hb : b = true) : X.bind φ = some r := by subst hb; exact h
theorem if_f {b : Bool} {X Y : Option β} (h : (if b then X else Y).bind φ = some r) (hb : b = false) : Y.bind φ = some r := by subst hb; exact h
end

theorem obs_nil {P : Program} {C : World → Prop} {z : Bool} : ∀ b ∈ ([] : List Ob), b.holds P C z := fun _ h => by cases h
theorem obs_cons {P : Program} {C : World → Prop} {z : Bool} {b : Ob} {r : List Ob} (h : b.holds P C z) (hr : ∀ b ∈ r, b.holds P C z) : ∀ x ∈ b :: r, x.holds P C z := fun x hx => by
  rcases List.mem_cons.1 hx with rfl | hx
  · exact h
  · exact hr x hx

/-! ### Forms that the printing program uses -/
section
variable {P : Program} {C : World → Prop} {hyps : List (Bool × Bool)} {t e : TypeId} {inf : TypeInfo} {w0 w : World} {B : Nat} {l r ps : List HP}

theorem then_n {R : Act → World → Prop} {Q : Exit → Act → World → Prop} {a : Act} {w : World} (h : R a w) : Exit.then R Q .normal a w := h
theorem then_e {R : Act → World → Prop} {Q : Exit → Act → World → Prop} {a : Act} {w : World} {i : Nat} (h : Q (.exit i) a w) : Exit.then R Q (.exit i) a w := h
theorem then_r {R : Act → World → Prop} {Q : Exit → Act → World → Prop} {a : Act} {w : World} (h : Q .ret a w) : Exit.then R Q .ret a w := h
theorem block_n {Q : Exit → Act → World → Prop} {a : Act} {w : World} {i : Nat} (h : Q .normal a w) : Exit.inBlock i Q .normal a w := h
theorem block_e {Q : Exit → Act → World → Prop} {a : Act} {w : World} {i : Nat} (h : Q .normal a w) : Exit.inBlock i Q (.exit i) a w := by simp [Exit.inBlock, h]
theorem block_o {Q : Exit → Act → World → Prop} {a : Act} {w : World} {i j : Nat} (hne : (j == i) = false) (h : Q (.exit j) a w) : Exit.inBlock i Q (.exit j) a w := by
  have : j ≠ i := by simpa using hne
  simp [Exit.inBlock, this, h]
theorem block_r {Q : Exit → Act → World → Prop} {a : Act} {w : World} {i : Nat} (h : Q .ret a w) : Exit.inBlock i Q .ret a w := h
theorem ite_some {γ : Type} {c : Bool} {X Y : Option γ} {r : γ} (h : (if c then X else Y) = some r) (hc : c = true) : X = some r := by subst hc; exact h
theorem start_b {γ : Type} {o : Option γ} {r : γ} (h : o = some r) : o.bind some = some r := by rw [h]; rfl
end

end Go.GL
