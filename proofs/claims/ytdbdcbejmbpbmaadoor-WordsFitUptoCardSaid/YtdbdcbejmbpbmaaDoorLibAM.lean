/-
  A small library of our own: maps of the call's own, by their entries in the order in which they came.
-/
import Derived.Test.YtdbdcbejmbpbmaaDoorLibW
import Derived.MapKept
import Derived.ChangeMaps5
namespace Go.GL
open Go Go.RowKit
variable {Ds : List Nat} {ro : Option Nat}

section
variable {K V : Type} [DecidableEq K]

/-- What stands at a key. -/
def mget (z : V) (k : K) : List (K × V) → V
  | [] => z
  | p :: m => if k = p.1 then p.2 else mget z k m
def mhas (k : K) : List (K × V) → Bool
  | [] => false
  | p :: m => if k = p.1 then true else mhas k m
def mput (k : K) (v : V) : List (K × V) → List (K × V)
  | [] => [(k, v)]
  | p :: m => if k = p.1 then (k, v) :: m else p :: mput k v m

theorem mget_mput (z v : V) (k k' : K) : ∀ m : List (K × V), mget z k' (mput k v m) = if k' = k then v else mget z k' m
  | [] => by simp [mput, mget]
  | p :: m => by
    unfold mput
    by_cases h : k = p.1
    · rw [if_pos h]
      unfold mget
      dsimp only
      by_cases h2 : k' = k
      · rw [if_pos h2, if_pos h2]
      · rw [if_neg h2, if_neg h2, if_neg (by rw [← h]; exact h2)]
    · rw [if_neg h]
      unfold mget
      rw [mget_mput z v k k' m]
      by_cases h2 : k' = k
      · have h3 : ¬ k' = p.1 := by rw [h2]; exact h
        simp only [if_pos h2, if_neg h3]
      · simp only [if_neg h2]
/-- The entries of a map, one by one. -/
def ER (kf : K → Value) (vf : V → Value) : List MapEntry → List (K × V) → Prop
  | [], [] => True
  | e :: es, p :: m => (e.key = kf p.1 ∧ e.val = vf p.2) ∧ ER kf vf es m
  | _, _ => False

def mfind (vf : V → Value) (k : K) : List (K × V) → Nat → Option (Nat × Value)
  | [], _ => none
  | p :: m, i => if k = p.1 then some (i, vf p.2) else mfind vf k m (i + 1)

/-- What a map needs of its key's type. -/
structure MKey (P : Program) (kt : TypeId) (kf : K → Value) : Prop where
  chk : ∀ (em : Bool) (a : K) (w : World), (Instr.checkKey em 10000 kt (kf a)).run P w = .ok () w
  stay : ∀ (a : K) (w : World), (Instr.keyThatStays (kf a) (kf a)).run P w = .ok (kf a) w
  fnd : ∀ {V : Type} (vf : V → Value) (k : K) (w : World) (es : List MapEntry) (m : List (K × V)), ER kf vf es m → (Instr.findKey kt (kf k) es).run P w = .ok (mfind vf k m 0) w

variable {P : Program} {kt : TypeId} {kf : K → Value} {vf : V → Value}

theorem asking_run (eqk : ∀ (a b : K) (w : World), (Op.equal kt (kf a) (kf b)).run P w = .ok (decide (a = b)) w) (k : K) (w : World) : ∀ (es : List MapEntry) (m : List (K × V)) (i : Nat), ER kf vf es m → (Instr.findAsking kt (kf k) es i).run P w = .ok (mfind vf k m i) w
  | [], [], _, _ => by simp [Instr.findAsking, mfind]
  | [], _ :: _, _, h => h.elim
  | _ :: _, [], _, h => h.elim
  | e :: es, p :: m, i, h => by
    have ih := asking_run eqk k w es m (i + 1) h.2
    unfold Instr.findAsking mfind
    simp only [Sem.run_bind, h.1.1, eqk, Result.andThen_ok]
    by_cases e1 : k = p.1
    · rw [if_pos e1]; simp [e1, h.1.2]
    · rw [if_neg e1]; simp [e1, ih]

theorem MKey.of (eqk : ∀ (a b : K) (w : World), (Op.equal kt (kf a) (kf b)).run P w = .ok (decide (a = b)) w)
    (chk : ∀ (em : Bool) (a : K) (w : World), (Instr.checkKey em 10000 kt (kf a)).run P w = .ok () w)
    (now : ∃ d, P.underlying kt = some d ∧ ∀ (a b : K) (e : MapEntry) (es : List MapEntry) (i : Nat), e.key = kf b → Instr.findNow d (kf a) (e :: es) i = none)
    (stay : ∀ (a : K) (w : World), (Instr.keyThatStays (kf a) (kf a)).run P w = .ok (kf a) w) : MKey P kt kf := ⟨chk, stay, by
  intro V vf k w es m h
  obtain ⟨d, hd, hn⟩ := now
  unfold Instr.findKey
  simp only [Sem.run_bind, run_underlying hd, Result.andThen_ok]
  cases es with
  | nil => cases m with
    | nil => simp [Instr.findNow, mfind]
    | cons _ _ => exact h.elim
  | cons e es => cases m with
    | nil => exact h.elim
    | cons p m =>
      rw [hn k p.1 e es 0 h.1.1]
      exact asking_run eqk k w _ _ 0 h⟩

theorem findKey_run (M : MKey P kt kf) (k : K) (w : World) {es : List MapEntry} {m : List (K × V)} (h : ER kf vf es m) : (Instr.findKey kt (kf k) es).run P w = .ok (mfind vf k m 0) w := M.fnd vf k w es m h

theorem mfind_cases (k : K) (z : V) : ∀ (es : List MapEntry) (m : List (K × V)) (i : Nat), ER kf vf es m →
    (mfind vf k m i = none ∧ mhas k m = false ∧ mget z k m = z ∧ ∀ (v : V) (e' : MapEntry), e'.key = kf k → e'.val = vf v → ER kf vf (es ++ [e']) (mput k v m)) ∨
    (∃ j e, mfind vf k m i = some (i + j, vf (mget z k m)) ∧ mhas k m = true ∧ es[j]? = some e ∧ e.key = kf k ∧ e.val = vf (mget z k m) ∧ ∀ (v : V) (e' : MapEntry), e'.key = kf k → e'.val = vf v → ER kf vf (es.set j e') (mput k v m))
  | [], [], _, _ => .inl ⟨rfl, rfl, rfl, fun v e' h1 h2 => ⟨⟨h1, h2⟩, trivial⟩⟩
  | [], _ :: _, _, h => h.elim
  | _ :: _, [], _, h => h.elim
  | e :: es, p :: m, i, h => by
    unfold mfind mhas mget mput
    by_cases e1 : k = p.1
    · refine .inr ⟨0, e, ?_, ?_, rfl, ?_, ?_, ?_⟩
      · rw [if_pos e1, if_pos e1]; rfl
      · rw [if_pos e1]
      · rw [h.1.1, e1]
      · rw [if_pos e1]; exact h.1.2
      · intro v e' h1 h2
        rw [if_pos e1]
        exact ⟨⟨h1, h2⟩, h.2⟩
    · simp only [if_neg e1]
      rcases mfind_cases k z es m (i + 1) h.2 with ⟨h1, h2, h3, h4⟩ | ⟨j, e0, h1, h2, h3, h4, h5, h6⟩
      · exact .inl ⟨h1, h2, h3, fun v e' k1 k2 => ⟨h.1, h4 v e' k1 k2⟩⟩
      · exact .inr ⟨j + 1, e0, by rw [h1]; congr 2; omega, h2, h3, h4, h5, fun v e' k1 k2 => ⟨h.1, h6 v e' k1 k2⟩⟩

/-- The stamps of the entries: each its own. -/
def stampedB (es : List MapEntry) (clock : Nat) : Prop := (es.map (·.born)).Nodup ∧ ∀ e ∈ es, e.born < clock

/-- A map of the call's own. -/
def mapH (kf : K → Value) (vf : V → Value) (b : Nat) (m : List (K × V)) : HP where
  at_ w f := (∃ es clock, w.heap[b]? = some (.map es clock) ∧ ER kf vf es.toList m ∧ stampedB es.toList clock) ∧ f = [b]
  loc := by
    rintro w w' f hk ⟨⟨es, clock, h, r⟩, rfl⟩
    exact ⟨⟨es, clock, (hk b (by simp)).trans h, r⟩, rfl⟩

variable {w0 w : World} {B : Nat} {l r : List HP} {t et : TypeId} {b : Nat} {m : List (K × V)} {C : World → Prop}

omit [DecidableEq K] in
theorem Sep.mapNew {ps : List HP} (hS : Sep w0 B w ps) (kf : K → Value) (vf : V → Value) : Sep w0 B (w.alloc (.map #[] 0)) (mapH kf vf w.heap.size [] :: ps) := by
  refine hS.add (by simpa using Ex.of_grown (World.grownBy_alloc w _ none)) (f := [w.heap.size]) ⟨⟨#[], 0, heap_alloc_new w _, trivial, by simp [stampedB]⟩, rfl⟩ ?_
  intro k hk
  simp at hk
  subst hk
  simp

/-- The block's entries are turned. -/
theorem Sep.mapTurn {p p' : HP} {b : Nat} {es : Array MapEntry} {clock : Nat} {o : Obj} (hS : Sep w0 B w (l ++ p :: r)) (hb : w.heap[b]? = some (.map es clock)) (h1 : ∀ f, p.at_ w f → f = [b])
    (h2 : p'.at_ { w with heap := w.heap.setIfInBounds b o } [b]) : Sep w0 B { w with heap := w.heap.setIfInBounds b o } (l ++ p' :: r) := by
  refine hS.upd fun f hf hbd => ⟨[b], h2, ?_, ?_, ?_⟩
  · rw [h1 f hf]
    exact ⟨rfl, rfl, rfl, by simp, fun k _ hk => ChangeMaps.heap_setBlock_other hb o (fun e => hk (by simp [e]))⟩
  · intro k hk; rw [h1 f hf]; exact .inl hk
  · intro k hk
    have := hbd k (by rw [h1 f hf]; exact hk)
    simpa using this.2

theorem set_born {es : List MapEntry} {j : Nat} {e e' : MapEntry} (h : es[j]? = some e) (hb : e'.born = e.born) : (es.set j e').map (·.born) = es.map (·.born) := by
  rw [List.map_set, hb]
  apply List.ext_getElem?
  intro i
  rw [List.getElem?_set]
  split
  · rename_i q; subst q
    split
    · rw [List.getElem?_map, h]; rfl
    · rename_i q2; rw [List.getElem?_eq_none (by simpa using q2)]
  · rfl

theorem stamped_set {es : List MapEntry} {clock j : Nat} {e e' : MapEntry} (hs : stampedB es clock) (h : es[j]? = some e) (hb : e'.born = e.born) : stampedB (es.set j e') clock := by
  refine ⟨by rw [set_born h hb]; exact hs.1, fun x hx => ?_⟩
  rcases List.mem_or_eq_of_mem_set hx with q | q
  · exact hs.2 x q
  · rw [q, hb]; exact hs.2 e (List.mem_of_getElem? h)

theorem stamped_snoc {es : List MapEntry} {clock : Nat} {e : MapEntry} (hs : stampedB es clock) (hb : e.born = clock) : stampedB (es ++ [e]) (clock + 1) := by
  refine ⟨?_, fun x hx => ?_⟩
  · rw [List.map_append, List.nodup_append]
    refine ⟨hs.1, by simp, ?_⟩
    intro a ha c hc
    obtain ⟨y, hy, rfl⟩ := List.mem_map.1 ha
    have := hs.2 y hy
    simp at hc
    omega
  · rcases List.mem_append.1 hx with q | q
    · have := hs.2 x q; omega
    · simp at q; rw [q, hb]; omega

theorem run_look (M : MKey P kt kf) (ht : P.underlying t = some (.map kt et)) {z : V} (hz : ∀ w, (zeroValue et).run P w = .ok (vf z) w) (ok : Bool) (k : K) (hS : Sep w0 B w (l ++ mapH kf vf b m :: r)) :
    (Instr.lookup t (.map (some b)) (kf k) ok).run P w = .ok (if ok then .tuple #[vf (mget z k m), .bool (mhas k m)] else vf (mget z k m)) w := by
  obtain ⟨f, ⟨⟨es, clock, hb, hE, _⟩, _⟩, _⟩ := hS.get
  rcases mfind_cases (vf := vf) k z es.toList m 0 hE with ⟨h1, h2, h3, _⟩ | ⟨j, e, h1, h2, h3, _⟩
  · have hf := findKey_run M k w hE
    rw [h1] at hf
    cases ok <;> simp [Instr.lookup, run_underlying ht, MapKept.run_getObj_map hb, M.chk, hf, hz, Result.andThen, h2, h3]
  · have hf := findKey_run M k w hE
    rw [h1] at hf
    cases ok <;> simp [Instr.lookup, run_underlying ht, MapKept.run_getObj_map hb, M.chk, hf, Result.andThen, h2]

theorem ob_look (M : MKey P kt kf) (ht : P.underlying t = some (.map kt et)) {z : V} (hz : ∀ w, (zeroValue et).run P w = .ok (vf z) w) {k : K} {x : Bool} {hyps : List (Bool × Bool)}
    (h : ∀ w, C w → ∃ w0 B l r, Sep w0 B w (l ++ mapH kf vf b m :: r)) : Ob.holds P C x ⟨false, hyps, vS (Instr.lookup t (.map (some b)) (kf k) false), vf (mget z k m)⟩ :=
  Ob.same fun _ w hw => by obtain ⟨w0, B, l, r, hS⟩ := h w hw; exact run_look M ht hz false k hS
theorem run_mput (M : MKey P kt kf) (ht : P.underlying t = some (.map kt et)) (k : K) (v : V) (hS : Sep w0 B w (l ++ mapH kf vf b m :: r)) :
    ∃ w', (uS (Instr.mapUpdate t (.map (some b)) (kf k) (vf v))).run P w = .ok .skip w' ∧ Sep w0 B w' (l ++ mapH kf vf b (mput k v m) :: r) := by
  obtain ⟨f, ⟨⟨es, clock, hb, hE, hs⟩, _⟩, _⟩ := hS.get
  have hf := findKey_run M k w hE
  rcases mfind_cases (vf := vf) k v es.toList m 0 hE with ⟨h1, h2, h3, h4⟩ | ⟨j, e, h1, h2, h3, h4, _, h5⟩
  · rw [h1] at hf
    refine ⟨{ w with heap := w.heap.setIfInBounds b (.map (es.push ⟨kf k, vf v, clock⟩) (clock + 1)) }, uS_run ?_, ?_⟩
    · simp [Instr.mapUpdate, run_underlying ht, MapKept.run_getObj_map hb, M.chk, hf, MapKept.run_setObj_map _ hb, Result.andThen]
    · refine Sep.mapTurn hS hb (fun f hf => hf.2) ⟨⟨_, _, ChangeMaps.heap_setBlock_same hb _, ?_, ?_⟩, rfl⟩
      · rw [Array.toList_push]; exact h4 v _ rfl rfl
      · rw [Array.toList_push]; exact stamped_snoc hs rfl
  · rw [h1, Nat.zero_add] at hf
    have hj : es[j]? = some e := by simpa using h3
    have hlist : (es.modify j (fun e' => { e' with key := kf k, val := vf v })).toList = es.toList.set j { e with key := kf k, val := vf v } := by rw [Array.toList_modify, ChangeMaps.modify_eq_set _ _ _ _ h3]
    refine ⟨{ w with heap := w.heap.setIfInBounds b (.map (es.modify j (fun e' => { e' with key := kf k, val := vf v })) clock) }, uS_run ?_, ?_⟩
    · simp [Instr.mapUpdate, run_underlying ht, MapKept.run_getObj_map hb, M.chk, hf, hj, h4, M.stay, MapKept.run_setObj_map _ hb, Result.andThen]
    · refine Sep.mapTurn hS hb (fun f hf => hf.2) ⟨⟨_, _, ChangeMaps.heap_setBlock_same hb _, ?_, ?_⟩, rfl⟩
      · rw [hlist]; exact h5 v _ rfl rfl
      · rw [hlist]; exact stamped_set hs h3 rfl

end

/-! ### keys that are structs or arrays of single cells -/
section
variable {P : Program}

theorem sameBits_cells : ∀ (l : List Value), (∀ v ∈ l, ∀ n, Instr.sameBits n v v = true) → ((l.zip l).all fun (x, y) => Instr.sameBits 9999 x y) = true
  | [], _ => rfl
  | v :: l, h => by simp [sameBits_cells l (fun u hu => h u (by simp [hu])), h v (by simp)]

theorem sameBits_int (k : IntKind) (x : Int) (n : Nat) : Instr.sameBits n (.int k x) (.int k x) = true := by cases n <;> simp [Instr.sameBits]
theorem sameBits_agg {cs : Array Value} (h : ∀ v ∈ cs.toList, ∀ n, Instr.sameBits n v v = true) : ∀ (w : World), (Instr.keyThatStays (.agg cs) (.agg cs)).run P w = .ok (.agg cs) w := by
  intro w
  have : Instr.sameBits 10000 (.agg cs) (.agg cs) = true := by
    show Instr.sameBits (9999 + 1) (.agg cs) (.agg cs) = true
    unfold Instr.sameBits
    rw [sameBits_cells _ h]; simp
  simp [Instr.keyThatStays, this]

theorem chk_cell {t : TypeId} {k : IntKind} (ht : P.underlying t = some (.int k)) (em : Bool) (n : Nat) (x : Int) (w : World) : (Instr.checkKey em (n + 1) t (.int k x)).run P w = .ok () w := MapKept.run_checkKey ht (show MapKept.IsKey (.int k) (.int k x) by simp [MapKept.IsKey]) em n
theorem chk_struct {kt : TypeId} {fs : Array Field} {xs : Array Value} {em : Bool} (ht : P.underlying kt = some (.struct fs))
    (h : ∀ f ∈ fs.toList, ∃ v, (∀ w, (part f.type xs f.offset).run P w = .ok v w) ∧ ∀ w, (Instr.checkKey em 9999 f.type v).run P w = .ok () w) (w : World) : (Instr.checkKey em 10000 kt (.agg xs)).run P w = .ok () w := by
  show (Instr.checkKey em (9999 + 1) kt (.agg xs)).run P w = _
  unfold Instr.checkKey
  simp only [Sem.run_bind, run_underlying ht, Result.andThen_ok]
  rw [← Array.forIn_toList]
  generalize fs.toList = l at h
  induction l with
  | nil => simp
  | cons f l ih =>
    obtain ⟨v, p1, p2⟩ := h f (by simp)
    have ih := ih (fun g hg => h g (by simp [hg]))
    by_cases hn : f.name ≠ "_"
    · simp only [List.forIn_cons, Sem.run_bind, hn, ne_eq, not_false_eq_true, if_true, Result.andThen_ok, p1, p2, Sem.run_pure]
      exact ih
    · simp only [List.forIn_cons, Sem.run_bind, hn, if_false, Result.andThen_ok, Sem.run_pure]
      exact ih

end
end Go.GL
