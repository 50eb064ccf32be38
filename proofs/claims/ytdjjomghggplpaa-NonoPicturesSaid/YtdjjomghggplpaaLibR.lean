/-
  A small library of our own: rows of rows ([][]int), read or of the call's own.
-/
import Derived.Test.YtdjjomghggplpaaLibC
namespace Go.GL
open Go Go.RowKit
variable {Ds : List Nat} {ro : Option Nat}

/-! Returning -/
section
variable {P : Program} {fn : Func} {R : Ending → World → Prop} {a : Act} {w : World} {n : Nat} {ρ : Env}
def RVal (P : Program) (ρ : Env) (w : World) : ResultVar → Value → Prop
  | .tmp t, v => ρ.find t = some (pl t v)
  | .cell t ty, v => ∃ ad, ρ.find t = some (pl t (.pointer (some ad))) ∧ (loadVar ty ad).run P w = .ok v w
def RVals (P : Program) (ρ : Env) (w : World) : List ResultVar → List Value → Prop
  | [], [] => True
  | r :: rs, v :: vs => RVal P ρ w r v ∧ RVals P ρ w rs vs
  | _, _ => False
def tupOf : List Value → Value
  | [v] => v
  | vs => .tuple vs.toArray
def resF (tmps : Array Value) : ResultVar → Sem Value
  | .tmp t => pure (tmps.getD t undef)
  | .cell x t => do loadVar t (← asAddr (tmps.getD x undef))
theorem results_eq (tmps : Array Value) : results fn tmps = (do
    let vs ← fn.results.mapM (resF tmps)
    pure (if h : vs.size = 1 then vs[0] else .tuple vs)) := by
  rfl
theorem retV {rs : List ResultVar} {vs : List Value} {V : Value} (hF : FrD [] n ρ a) (hr : fn.results = rs.toArray) (h : RVals P ρ w rs vs) (hV : tupOf vs = V) (hR : R (.returned V) w) : bodyR P fn R .ret a w := by
  subst hV
  refine bodyR_ret (v := tupOf vs) ?_ hF.defers hR
  have key : ∀ (rs : List ResultVar) (vs : List Value), RVals P ρ w rs vs → (rs.mapM (resF a.tmps)).run P w = .ok vs w := by
    intro rs
    induction rs with
    | nil => intro vs h; cases vs with
      | nil => rfl
      | cons v vs => exact h.elim
    | cons r rs ih =>
      intro vs h
      cases vs with
      | nil => exact h.elim
      | cons v vs =>
        have h2 := ih vs h.2
        have h1 := h.1
        have h3 : (resF a.tmps r).run P w = .ok v w := by
          cases r with
          | tmp t =>
            have := hF.getD h1
            show (pure (a.tmps.getD t undef) : Sem Value).run P w = _
            rw [this]
            rfl
          | cell x t =>
            obtain ⟨ad, hx, hl⟩ := h1
            have := hF.getD hx
            show (do loadVar t (← asAddr (a.tmps.getD x undef)) : Sem Value).run P w = _
            rw [this, Sem.run_bind]
            exact hl
        rw [List.mapM_cons, Sem.run_bind, h3, Result.andThen_ok, Sem.run_bind, h2]
        rfl
  rw [results_eq, hr, List.mapM_toArray, Sem.run_bind, Sem.run_map, key rs vs h]
  match vs with
  | [] => rfl
  | [v] => rfl
  | _ :: _ :: _ => rfl
end

def bigR : Int := 5864062014805
abbrev Hd := Option Addr × Nat
def geti2 (m : List (List Int)) (i : Int) : List Int := m.getD i.toNat []
def hdA (hd : List Hd) (i : Int) : Option Addr := (hd.getD i.toNat (none, 0)).1
def hdC (hd : List Hd) (i : Int) : Nat := (hd.getD i.toNat (none, 0)).2
def hdV (hd : List Hd) (m : List (List Int)) : List Value := List.zipWith (fun h l => .slice h.1 l.length h.2) hd m
def rowHP (ei : TypeId) (hd : List Hd) (m : List (List Int)) : List HP := List.zipWith (fun h l => own ei (.slice h.1 l.length h.2) (vI l)) hd m

/-- Rows of the call's own, each row of the call's own. -/
def rows (e ei : TypeId) (v : Value) (hd : List Hd) (m : List (List Int)) : HP where
  at_ w f := hd.length = m.length ∧ SepL w (own e v (hdV hd m) :: rowHP ei hd m) f
  loc := fun hk h => ⟨h.1, h.2.loc hk⟩
/-- The same without row i. -/
def rowsBut (e ei : TypeId) (v : Value) (hd : List Hd) (m : List (List Int)) (i : Nat) : HP where
  at_ w f := hd.length = m.length ∧ i < m.length ∧ SepL w (own e v (hdV hd m) :: (rowHP ei hd m).eraseIdx i) f
  loc := fun hk h => ⟨h.1, h.2.1, h.2.2.loc hk⟩

section
variable {w0 w w' : World} {B : Nat} {p p1 p2 : HP} {l r ps qs : List HP}

theorem Sep.split (h : Sep w0 B w (l ++ p :: r)) (hs : ∀ f, p.at_ w f → ∃ f1 f2, p1.at_ w f1 ∧ p2.at_ w f2 ∧ (∀ k ∈ f1, k ∉ f2) ∧ (∀ k, k ∈ f1 ∨ k ∈ f2 → k ∈ f)) : Sep w0 B w (p1 :: (l ++ p2 :: r)) := by
  obtain ⟨u, hsl, hu⟩ := h.ex
  obtain ⟨f, u', hp, hs', hd, hm⟩ := hsl.take
  obtain ⟨f1, f2, h1, h2, hdd, hsub⟩ := hs f hp
  obtain ⟨u2, hs2, hm2⟩ := SepL.ins h2 hs' (fun k hk => hd k (hsub k (.inr hk)))
  refine ⟨h.base, h.below, f1 ++ u2, .cons h1 hs2 (fun k hk hk' => ?_), fun k hk => hu k ((hm k).2 ?_)⟩
  · rcases (hm2 k).1 hk' with h0 | h0
    · exact hdd k hk h0
    · exact hd k (hsub k (.inl hk)) h0
  · rcases List.mem_append.1 hk with h0 | h0
    · exact .inl (hsub k (.inl h0))
    · rcases (hm2 k).1 h0 with h0 | h0
      · exact .inl (hsub k (.inr h0))
      · exact .inr h0

theorem Sep.join (h : Sep w0 B w (p1 :: (l ++ p2 :: r))) (hs : ∀ f1 f2, p1.at_ w f1 → p2.at_ w f2 → (∀ k ∈ f1, k ∉ f2) → ∃ f, p.at_ w f ∧ ∀ k ∈ f, k ∈ f1 ∨ k ∈ f2) : Sep w0 B w (l ++ p :: r) := by
  obtain ⟨u, hsl, hu⟩ := h.ex
  cases hsl with
  | cons hp1 hsr hd1 =>
    rename_i f1 u0
    obtain ⟨f2, u', hp2, hs', hd, hm⟩ := hsr.take
    obtain ⟨f, hp, hsub⟩ := hs f1 f2 hp1 hp2 (fun k hk hk' => hd1 k hk ((hm k).2 (.inl hk')))
    obtain ⟨u2, hs2, hm2⟩ := SepL.ins hp hs' (fun k hk hk' => by
      rcases hsub k hk with h0 | h0
      · exact hd1 k h0 ((hm k).2 (.inr hk'))
      · exact hd k h0 hk')
    refine ⟨h.base, h.below, u2, hs2, fun k hk => hu k (List.mem_append.2 ?_)⟩
    rcases (hm2 k).1 hk with h0 | h0
    · rcases hsub k h0 with h0 | h0
      · exact .inl h0
      · exact .inr ((hm k).2 (.inl h0))
    · exact .inr ((hm k).2 (.inr h0))

theorem rowHP_get {ei : TypeId} {hd : List Hd} {m : List (List Int)} (hl : hd.length = m.length) {i : Int} (hb : 0 ≤ i ∧ i < m.length) :
    (rowHP ei hd m)[i.toNat]? = some (own ei (.slice (hdA hd i) (geti2 m i).length (hdC hd i)) (vI (geti2 m i))) := by
  have h1 : i.toNat < m.length := by omega
  unfold rowHP hdA hdC geti2
  rw [List.getElem?_zipWith, List.getElem?_eq_getElem h1, List.getElem?_eq_getElem (by omega : i.toNat < hd.length)]
  simp [List.getD_eq_getElem?_getD, List.getElem?_eq_getElem h1, List.getElem?_eq_getElem (by omega : i.toNat < hd.length)]
theorem hdV_get {hd : List Hd} {m : List (List Int)} (hl : hd.length = m.length) {i : Int} (hb : 0 ≤ i ∧ i < m.length) :
    (hdV hd m)[i.toNat]? = some (.slice (hdA hd i) (geti2 m i).length (hdC hd i)) := by
  have h1 : i.toNat < m.length := by omega
  unfold hdV hdA hdC geti2
  rw [List.getElem?_zipWith, List.getElem?_eq_getElem h1, List.getElem?_eq_getElem (by omega : i.toNat < hd.length)]
  simp [List.getD_eq_getElem?_getD, List.getElem?_eq_getElem h1, List.getElem?_eq_getElem (by omega : i.toNat < hd.length)]
theorem hdV_length {hd : List Hd} {m : List (List Int)} (hl : hd.length = m.length) : (hdV hd m).length = m.length := by unfold hdV; rw [List.length_zipWith]; omega

theorem erase_split {α : Type} {l : List α} {i : Nat} {x : α} (h : l[i]? = some x) : l = l.take i ++ x :: l.drop (i + 1) ∧ l.eraseIdx i = l.take i ++ l.drop (i + 1) := by
  obtain ⟨hi, hx⟩ := List.getElem?_eq_some_iff.1 h
  constructor
  · rw [← hx, List.getElem_cons_drop, List.take_append_drop]
  · rw [List.eraseIdx_eq_take_drop_succ]

/-- Rows that read so. -/
structure RdRows (w : World) (B : Nat) (A : Option Addr) (hd : List Hd) (m : List (List Int)) : Prop where
  len : hd.length = m.length
  out : Rd w B A (hdV hd m)
  row : ∀ i : Int, 0 ≤ i ∧ i < m.length → Rd w B (hdA hd i) (vI (geti2 m i)) ∧ (geti2 m i).length ≤ hdC hd i

theorem RdRows.sep {A : Option Addr} {hd : List Hd} {m : List (List Int)} (h : RdRows w0 B A hd m) (hs : Sep w0 B w ps) : RdRows w w.heap.size A hd m :=
  ⟨h.len, h.out.sep hs, fun i hi => ⟨(h.row i hi).1.sep hs, (h.row i hi).2⟩⟩

theorem rd_cellV {A : Option Addr} {xs : List Value} {i : Int} {v : Value} (h : Rd w B A xs) (hv : xs[i.toNat]? = some v) : w.cell? (sAddr A i) = some v := by
  obtain ⟨ad, rfl, _, hc⟩ := h i.toNat v hv
  exact hc

theorem RdRows.cell {A : Option Addr} {hd : List Hd} {m : List (List Int)} (h : RdRows w B A hd m) {i : Int} (hb : 0 ≤ i ∧ i < m.length) : w.cell? (sAddr A i) = some (.slice (hdA hd i) (geti2 m i).length (hdC hd i)) :=
  rd_cellV h.out (hdV_get h.len hb)

variable {e ei : TypeId} {A : Option Addr} {n c : Nat} {hd : List Hd} {m : List (List Int)}

theorem own_cap {e : TypeId} {A : Option Addr} {n c : Nat} {xs : List Value} {f : List Nat} (h : (own e (.slice A n c) xs).at_ w f) : xs.length ≤ c := by
  obtain ⟨A', c', hv, hc⟩ := own_form h.1
  injection hv with _ h2 h3
  omega

theorem Sep.rdRows (h : Sep w0 B w (l ++ rows e ei (.slice A n c) hd m :: r)) : RdRows w w.heap.size A hd m := by
  obtain ⟨f, ⟨hl, hf⟩, _⟩ := h.get
  refine ⟨hl, ?_, fun i hi => ?_⟩
  · cases hf with
    | cons h1 _ _ => exact own_rd h1
  · obtain ⟨F, h1, _, _⟩ := hf.fn
    have h2 := h1 (i.toNat + 1) _ (by simpa using rowHP_get (ei := ei) hl hi)
    exact ⟨own_rd h2, by simpa using own_cap h2⟩
theorem Sep.rowsLen (h : Sep w0 B w (l ++ rows e ei (.slice A n c) hd m :: r)) : n = m.length ∧ m.length ≤ c := by
  obtain ⟨f, ⟨hl, hf⟩, _⟩ := h.get
  cases hf with
  | cons h1 _ _ =>
    have a := own_len h1
    have b := own_cap h1
    rw [hdV_length hl] at a b
    exact ⟨a, b⟩

theorem Sep.takeRow (h : Sep w0 B w (l ++ rows e ei (.slice A n c) hd m :: r)) {i : Int} (hb : 0 ≤ i ∧ i < m.length) :
    Sep w0 B w (own ei (.slice (hdA hd i) (geti2 m i).length (hdC hd i)) (vI (geti2 m i)) :: (l ++ rowsBut e ei (.slice A n c) hd m i.toNat :: r)) := by
  refine h.split fun f ⟨hl, hf⟩ => ?_
  obtain ⟨h1, h2⟩ := erase_split (rowHP_get (ei := ei) hl hb)
  rw [h1, ← List.cons_append] at hf
  obtain ⟨f1, f2, ha, hb', hd', hm⟩ := hf.take
  rw [List.cons_append, ← h2] at hb'
  exact ⟨f1, f2, ha, ⟨hl, by omega, hb'⟩, hd', fun k => (hm k).2⟩

theorem rowHP_set {i : Nat} (hl : hd.length = m.length) (hi : i < m.length) (A' : Option Addr) (c' : Nat) (l' : List Int) :
    rowHP ei (hd.set i (A', c')) (m.set i l') = (rowHP ei hd m).take i ++ own ei (.slice A' l'.length c') (vI l') :: (rowHP ei hd m).drop (i + 1) := by
  have hlen : (rowHP ei hd m).length = m.length := by unfold rowHP; rw [List.length_zipWith]; omega
  apply List.ext_getElem?
  intro j
  unfold rowHP at hlen ⊢
  rw [List.getElem?_zipWith]
  by_cases hj : j = i
  · subst hj
    rw [List.getElem?_set, List.getElem?_set, if_pos rfl, if_pos rfl, if_pos (by omega), if_pos (by omega), List.getElem?_append_right (by simp; omega)]
    simp [show min j (min hd.length m.length) = j by omega]
  · rw [List.getElem?_set_ne (Ne.symm hj), List.getElem?_set_ne (Ne.symm hj)]
    by_cases hlt : j < i
    · rw [List.getElem?_append_left (by simp; omega), List.getElem?_take, if_pos hlt, List.getElem?_zipWith]
    · rw [List.getElem?_append_right (by simp; omega)]
      have : j - (List.take i (List.zipWith (fun h l => own ei (.slice h.1 l.length h.2) (vI l)) hd m)).length = (j - i - 1) + 1 := by simp; omega
      rw [this, List.getElem?_cons_succ, List.getElem?_drop, List.getElem?_zipWith, show i + 1 + (j - i - 1) = j by omega]
theorem hdV_set {i : Nat} (hl : hd.length = m.length) (A' : Option Addr) (c' : Nat) (l' : List Int) :
    hdV (hd.set i (A', c')) (m.set i l') = (hdV hd m).set i (.slice A' l'.length c') := by
  apply List.ext_getElem?
  intro j
  unfold hdV
  rw [List.getElem?_zipWith, List.getElem?_set, List.getElem?_set, List.getElem?_set, List.getElem?_zipWith, List.length_zipWith]
  by_cases hj : i = j
  · subst hj
    by_cases h1 : i < m.length
    · simp [h1, hl]
    · simp [h1, hl]
  · simp [hj]

/-- A row is put back where it was, its header as before. -/
theorem Sep.putRow {i : Int} {l' : List Int} (h : Sep w0 B w (own ei (.slice (hdA hd i) l'.length (hdC hd i)) (vI l') :: (l ++ rowsBut e ei (.slice A n c) hd m i.toNat :: r))) (hb : 0 ≤ i ∧ i < m.length) (hlen : l'.length = (geti2 m i).length) :
    Sep w0 B w (l ++ rows e ei (.slice A n c) hd (m.set i.toNat l') :: r) := by
  refine h.join fun f1 f2 h1 ⟨hl, hi, h2⟩ hd' => ?_
  have e1 : hd.set i.toNat (hdA hd i, hdC hd i) = hd := by
    apply List.ext_getElem?
    intro j
    rw [List.getElem?_set]
    by_cases hj : i.toNat = j
    · subst hj
      rw [if_pos rfl, if_pos (by omega)]
      unfold hdA hdC
      rw [List.getD_eq_getElem?_getD, List.getElem?_eq_getElem (by omega : i.toNat < hd.length)]
      rfl
    · rw [if_neg hj]
  have e2 : hdV hd (m.set i.toNat l') = hdV hd m := by
    have := hdV_set (i := i.toNat) hl (hdA hd i) (hdC hd i) l'
    rw [e1] at this
    rw [this]
    apply List.ext_getElem?
    intro j
    rw [List.getElem?_set]
    by_cases hj : i.toNat = j
    · subst hj
      rw [if_pos rfl, if_pos (by rw [hdV_length hl]; omega), hdV_get hl hb, hlen]
    · rw [if_neg hj]
  have e3 := rowHP_set (ei := ei) hl hi (hdA hd i) (hdC hd i) l'
  rw [e1] at e3
  rw [List.eraseIdx_eq_take_drop_succ, ← List.cons_append] at h2
  obtain ⟨u, hu, hm⟩ := SepL.ins h1 h2 hd'
  refine ⟨u, ⟨by rw [List.length_set]; exact hl, ?_⟩, fun k hk => (hm k).1 hk⟩
  rw [e2, e3, ← List.cons_append]
  exact hu

/-- A row of the call's own is stored among the rows. -/
theorem run_storeRow {P : Program} {t : TypeId} {inf : TypeInfo} {i : Int} {l' : List Int} {A' : Option Addr} {c' : Nat} (h : Sep w0 B w (own ei (.slice A' l'.length c') (vI l') :: (l ++ rowsBut e ei (.slice A n c) hd m i.toNat :: r)))
    (hi : P.info? t = some inf) (hs : inf.size = 1) (hb : 0 ≤ i ∧ i < m.length) :
    ∃ w', (uS (Instr.storeAt t (.pointer (some (sAddr A i))) (.slice A' l'.length c'))).run P w = .ok .skip w' ∧ Sep w0 B w' (l ++ rows e ei (.slice A (m.set i.toNat l').length c) (hd.set i.toNat (A', c')) (m.set i.toNat l') :: r) := by
  have hn : n = m.length := by
    obtain ⟨f, ⟨hl, hlt, hf⟩, _⟩ := (show Sep w0 B w ((own ei (.slice A' l'.length c') (vI l') :: l) ++ rowsBut e ei (.slice A n c) hd m i.toNat :: r) from h).get
    cases hf with
    | cons h1 _ _ =>
      have a := own_len h1
      rwa [hdV_length hl] at a
  have hlen : hd.length = m.length := by
    obtain ⟨f, ⟨hl, _, _⟩, _⟩ := (show Sep w0 B w ((own ei (.slice A' l'.length c') (vI l') :: l) ++ rowsBut e ei (.slice A n c) hd m i.toNat :: r) from h).get
    exact hl
  -- the headers apart
  let rest : HP := ⟨fun w f => SepL w ((rowHP ei hd m).eraseIdx i.toNat) f, fun hk h => h.loc hk⟩
  have h1 : Sep w0 B w (own e (.slice A n c) (hdV hd m) :: ((own ei (.slice A' l'.length c') (vI l') :: l) ++ rest :: r)) := by
    refine Sep.split (l := own ei (.slice A' l'.length c') (vI l') :: l) h fun f ⟨_, _, hf⟩ => ?_
    cases hf with
    | cons ha hb' hd' => exact ⟨_, _, ha, hb', hd', fun k => by simp⟩
  obtain ⟨w', hrun, h2⟩ := run_set (P := P) (t := t) (l := []) (u := .slice A' l'.length c') h1 hi hs rfl rfl hb.1 (by rw [hdV_length hlen]; omega)
  refine ⟨w', hrun, ?_⟩
  rw [← hdV_set hlen] at h2
  -- and together
  have h3 : Sep w0 B w' (own ei (.slice A' l'.length c') (vI l') :: ((own e (.slice A n c) (hdV (hd.set i.toNat (A', c')) (m.set i.toNat l')) :: l) ++ rest :: r)) := by
    have := Sep.move (l := []) (p := own e (.slice A n c) (hdV (hd.set i.toNat (A', c')) (m.set i.toNat l'))) (l' := [own ei (.slice A' l'.length c') (vI l')]) (r' := l ++ rest :: r) h2 rfl
    simpa using this
  let rest2 : HP := ⟨fun w f => SepL w (rowHP ei (hd.set i.toNat (A', c')) (m.set i.toNat l')) f, fun hk h => h.loc hk⟩
  have h4 : Sep w0 B w' ((own e (.slice A n c) (hdV (hd.set i.toNat (A', c')) (m.set i.toNat l')) :: l) ++ rest2 :: r) := by
    refine h3.join fun f1 f2 ha hb' hd' => ?_
    have e3 := rowHP_set (ei := ei) (i := i.toNat) hlen (by omega) A' c' l'
    have hb2 : SepL w' ((rowHP ei hd m).take i.toNat ++ (rowHP ei hd m).drop (i.toNat + 1)) f2 := by rw [← List.eraseIdx_eq_take_drop_succ]; exact hb'
    obtain ⟨u, hu, hm⟩ := SepL.ins ha hb2 hd'
    exact ⟨u, by show SepL _ _ _; rw [e3]; exact hu, fun k hk => (hm k).1 hk⟩
  rw [List.cons_append] at h4
  refine h4.join fun f1 f2 ha hb' hd' => ⟨f1 ++ f2, ⟨by simp [hlen], ?_⟩, fun k hk => List.mem_append.1 hk⟩
  have ha' : (own e (.slice A (m.set i.toNat l').length c) (hdV (hd.set i.toNat (A', c')) (m.set i.toNat l'))).at_ w' f1 := by rw [List.length_set, ← hn]; exact ha
  exact .cons ha' hb' hd'

theorem Rd.none_nil {w : World} {B : Nat} {α : Type} {f : α → Value} {l : List α} (h : Rd w B none (l.map f)) : l = [] := by
  cases l with
  | nil => rfl
  | cons x l => obtain ⟨ad, h, _⟩ := h 0 (f x) rfl; cases h

/-- 's == nil'. -/
theorem ob_isnil {P : Program} {C : World → Prop} {hyps : List (Bool × Bool)} {x : Bool} {t e : TypeId} {s : Sem Next} {A : Option Addr} {n c : Nat} (ht : P.underlying t = some (.slice e)) (hs : s = vS (binOp .eql t (.slice A n c) (.slice none 0 0))) : Ob.holds P C x ⟨true, hyps, s, .bool A.isNone⟩ := by
  subst hs
  refine Ob.any fun _ w => ?_
  have h : ∀ d : Nat, (Op.equalIn (d + 1) t (.slice A n c) (.slice none 0 0)).run P w = .ok A.isNone w := fun d => by
    cases A <;> simp [Op.equalIn, run_underlying ht]
  have h' : (Op.equalIn Op.maxDepth t (.slice A n c) (.slice none 0 0)).run P w = .ok A.isNone w := h (Op.maxDepth - 1)
  simp [binOp, Op.equal, h']

theorem zeroCells_one (n : Nat) : Builtin.zeroCells #[Value.int .i64 0] n = (List.replicate n (Value.int .i64 0)).toArray := by
  unfold Builtin.zeroCells
  apply Array.ext
  · simp
  · intro i h1 h2
    simp [Nat.mod_one]

/-- append(nil, make([]int, n)...), as the compiler writes it. -/
theorem run_app0I {P : Program} {t tx ty e : TypeId} {inf : TypeInfo} {n : Int} (hS : Sep w0 B w ps) (ht : P.underlying t = some (.slice e)) (hx : P.underlying tx = some (.int .i64)) (hi : P.info? e = some inf) (hz : inf.zero = some (.int .i64 0)) (hs : inf.size = 1) (hby : inf.bytes = 8) (hb : 0 ≤ n ∧ n ≤ bigN) :
    ∃ A c w', (vS (Builtin.append_ #[t, tx] ty #[.slice none 0 0, .int .i64 n])).run P w = .ok (.value (.slice A (List.replicate n.toNat (0 : Int)).length c)) w' ∧ Sep w0 B w' (own e (.slice A (List.replicate n.toNat (0 : Int)).length c) (vI (List.replicate n.toNat (0 : Int))) :: ps) := by
  obtain ⟨h0, h1⟩ := hb
  obtain ⟨m, rfl⟩ := Int.eq_ofNat_of_zero_le h0
  have h2 : m ≤ 17592186044416 := by unfold bigN at h1; omega
  have hw : IntKind.wrap .i64 (m : Int) = (m : Int) := IntWalk.i64_in _ ⟨by omega, by omega⟩
  by_cases hm : m = 0
  · subst hm
    refine ⟨none, 0, w, vS_run ?_, hS.nil e⟩
    have hw0 : IntKind.wrap .i64 0 = 0 := hw
    simp [Builtin.append_, run_underlying ht, run_underlying hx, sizeOf, typeInfo, hi, hw0, asInt, asIntOf]
  · refine ⟨some ⟨w.heap.size, 0, none⟩, grownCap w m 0 e, w.drew.alloc (.cells ((List.replicate m (Value.int .i64 0)).toArray ++ Builtin.zeroCells #[Value.int .i64 0] (grownCap w m 0 e - m)) e), vS_run ?_, ?_⟩
    · have a1 : ¬ (281474976710656 < (m : Int) * (inf.bytes : Int)) := by rw [hby]; omega
      have a2 : ¬ (9223372036854775807 < (m : Int)) := by omega
      have a3 : ¬ (281474976710656 < Builtin.nextslicecap m 0 * inf.bytes) := by
        have : Builtin.nextslicecap m 0 = m := by unfold Builtin.nextslicecap; rw [if_pos (by omega)]
        rw [this, hby]; omega
      have a4 : ¬ ((m : Int) < 0) := by omega
      simp [Builtin.append_, run_underlying ht, run_underlying hx, sizeOf, typeInfo, zeroValue, hi, hz, hs, hw, asInt, asIntOf, a1, a2, a3, a4, hm, Question.forced, newRow, grownCap, Builtin.firstCells, Value.cells, zeroCells_one m]
    · have hge := grownCap_ge w m 0 e
      have hcm := grownCap_le_maxLen w m 0 e (by unfold maxLen; omega)
      refine hS.add ⟨rfl, rfl, rfl, by simp, fun k hk _ => heap_alloc_old w.drew _ hk⟩ (f := [w.heap.size]) ⟨⟨by simp, .inr ⟨w.heap.size, _, _, ?_, Nat.zero_le _, heap_alloc_new w.drew _, ?_, hcm, ?_, ?_⟩⟩, by simp [Value.ownBlock]⟩ ?_
      · simp
      · simpa using hge
      · simp [size_zeroCells]; omega
      · simp
      · intro k hk
        simp at hk
        subst hk
        simp

theorem Sep.nilRows (h : Sep w0 B w ps) (e ei : TypeId) : Sep w0 B w (rows e ei (.slice none ([] : List (List Int)).length 0) [] [] :: ps) :=
  h.add (Ex.refl w) (f := [] ++ []) ⟨rfl, .cons ⟨World.ownsRow_nil w 0 e 1, by simp [Value.ownBlock]⟩ .nil (by simp)⟩ (by simp)

theorem Sep.at2 {q : HP} (h : Sep w0 B w (p :: ps)) (j : Nat) (he : ps[j]? = some q) : Sep w0 B w (p :: (ps.take j ++ q :: ps.drop (j + 1))) := by
  obtain ⟨hi, hp⟩ := List.getElem?_eq_some_iff.1 he
  rw [← hp, List.getElem_cons_drop, List.take_append_drop]
  exact h

def RowsAll (w : World) (B : Nat) : List Hd → List (List Int) → Prop
  | [], [] => True
  | h :: hd, l :: m => (Rd w B h.1 (vI l) ∧ l.length ≤ h.2) ∧ RowsAll w B hd m
  | _, _ => False

theorem RowsAll.len : ∀ {hd : List Hd} {m : List (List Int)}, RowsAll w B hd m → hd.length = m.length
  | [], [], _ => rfl
  | [], _ :: _, h => h.elim
  | _ :: _, [], h => h.elim
  | _ :: _, _ :: _, h => by simp [RowsAll.len h.2]
theorem RowsAll.get : ∀ {hd : List Hd} {m : List (List Int)}, RowsAll w B hd m → ∀ i : Nat, i < m.length → Rd w B (hdA hd i) (vI (geti2 m i)) ∧ (geti2 m i).length ≤ hdC hd i
  | [], [], _, i, hi => by simp at hi
  | [], _ :: _, h, _, _ => h.elim
  | _ :: _, [], h, _, _ => h.elim
  | h :: hd, l :: m, hr, 0, _ => by simpa [hdA, hdC, geti2] using hr.1
  | h :: hd, l :: m, hr, i + 1, hi => by
    have := RowsAll.get hr.2 i (by simpa using hi)
    simpa [hdA, hdC, geti2] using this

theorem ob_ixR {P : Program} {C : World → Prop} {hyps : List (Bool × Bool)} {t e : TypeId} {inf : TypeInfo} {x : Bool} {A : Option Addr} {hd : List Hd} {m : List (List Int)} {c : Nat} {k : IntKind} {i : Int} (ht : P.underlying t = some (.slice e)) (hi : P.info? e = some inf) (hs : inf.size = 1)
    (hr : RdRows w B A hd m) (h : (∀ y ∈ hyps, y.1 = y.2) → 0 ≤ i ∧ i < m.length) : Ob.holds P C x ⟨true, hyps, vS (Instr.indexAt t (.slice A m.length c) (.int k i)), .pointer (some (sAddr A i))⟩ :=
  ob_index ht hi hs (fun h0 => hr.out.some (by rw [hdV_length hr.len]; exact h0)) h

theorem ob_getR {P : Program} {C : World → Prop} {hyps : List (Bool × Bool)} {t : TypeId} {x : Bool} {A : Option Addr} {hd : List Hd} {m : List (List Int)} {i : Int} (hag : runPure P (isAgg t) = some false) (hr : ∀ w, C w → ∃ B, RdRows w B A hd m) (h : (∀ y ∈ hyps, y.1 = y.2) → 0 ≤ i ∧ i < m.length) :
    Ob.holds P C x ⟨false, hyps, vS (Instr.loadAt t (.pointer (some (sAddr A i)))), .slice (hdA hd i) (geti2 m i).length (hdC hd i)⟩ :=
  ob_load hag fun hy w hw => by
    obtain ⟨B, hr⟩ := hr w hw
    exact hr.cell (h hy)

/-! A struct's value stored whole -/
def wr (cs : Array Value) (o : Nat) : List Value → Array Value
  | [] => cs
  | v :: vs => wr (cs.setIfInBounds o v) (o + 1) vs
theorem sep_put {P : Program} {e : TypeId} {g : Nat} {cs : Array Value} {i : Nat} {u : Value} (hS : Sep w0 B w (l ++ blk g e cs :: r)) (h1 : u.oneCell' = true) (hl : i < cs.size) :
    ∃ w', (store ⟨g, i, none⟩ u).run P w = .ok () w' ∧ Sep w0 B w' (l ++ blk g e (cs.setIfInBounds i u) :: r) := by
  obtain ⟨f, ⟨hf, hf2⟩, hfb⟩ := hS.get
  have hcell : w.cell? ⟨g, i, none⟩ = some cs[i] := by rw [cell_of_row w g i cs e (0, 0) hf, Array.getElem?_eq_getElem hl]
  have hfr : w.frozen? ⟨g, i, none⟩ = false := frozen_of_row w g i cs e hf
  refine ⟨w.setCell ⟨g, i, none⟩ u, ?_, ?_⟩
  · cases u <;> first
      | (simp [Value.oneCell'] at h1; done)
      | simp [store, Sem.run, hcell, hfr]
  · refine hS.upd fun f' hf' hb' => ⟨[g], ⟨heap_setCell_same w g i cs e u hf, rfl⟩, ?_, ?_, ?_⟩
    · rw [hf'.2]
      exact ⟨rfl, rfl, rfl, by simp, fun k _ hk => heap_setCell_other w ⟨g, i, none⟩ k u (fun h => hk (by simp [h]))⟩
    · intro k hk; rw [hf'.2]; exact .inl hk
    · intro k hk
      have := hb' k (by rw [hf'.2]; exact hk)
      simpa using this.2

theorem sep_puts {P : Program} {e : TypeId} {g o : Nat} : ∀ (us : List Value) (i : Nat) (cs : Array Value) (w : World), Sep w0 B w (l ++ blk g e cs :: r) → (∀ u ∈ us, u.oneCell' = true) → o + i + us.length ≤ cs.size →
    ∃ w', (storeCells ⟨g, o, none⟩ us i).run P w = .ok () w' ∧ Sep w0 B w' (l ++ blk g e (wr cs (o + i) us) :: r)
  | [], i, cs, w, hS, _, _ => ⟨w, rfl, hS⟩
  | u :: us, i, cs, w, hS, h1, hl => by
    have hadd : (⟨g, o, none⟩ : Addr).add i = ⟨g, o + i, none⟩ := by unfold Addr.add; split <;> simp_all
    obtain ⟨w1, hr, hS1⟩ := sep_put (P := P) (cs := cs) hS (h1 u (by simp)) (i := o + i) (by simp only [List.length_cons] at hl; omega)
    obtain ⟨w2, hr2, hS2⟩ := sep_puts (P := P) (o := o) us (i + 1) (cs.setIfInBounds (o + i) u) w1 hS1 (fun u hu => h1 u (by simp [hu])) (by simp only [List.length_cons] at hl; simp; omega)
    refine ⟨w2, ?_, hS2⟩
    rw [storeCells, Sem.run_bind, hadd, hr, Result.andThen_ok, hr2]

theorem run_putA {P : Program} {t e : TypeId} {g o : Nat} {cs us : Array Value} (hS : Sep w0 B w (l ++ blk g e cs :: r)) (hsz : runPure P (sizeOf t) = some us.size) (h1 : ∀ u ∈ us.toList, u.oneCell' = true) (hl : o + us.size ≤ cs.size) :
    ∃ w', (uS (Instr.storeAt t (.pointer (some ⟨g, o, none⟩)) (.agg us))).run P w = .ok .skip w' ∧ Sep w0 B w' (l ++ blk g e (wr cs o us.toList) :: r) := by
  obtain ⟨w', hr, hS'⟩ := sep_puts (P := P) (o := o) us.toList 0 cs w hS h1 (by simpa using hl)
  refine ⟨w', uS_run ?_, hS'⟩
  have hc : (Value.agg us).cells = us := rfl
  simp [Instr.storeAt, Instr.sureAddr, storeVar, runPure_run _ hsz, hc, hr]

theorem rv_nil {P : Program} {ρ : Env} : RVals P ρ w [] [] := trivial
theorem rv_t {P : Program} {ρ : Env} {t : Nat} {v : Value} {rs : List ResultVar} {vs : List Value} (h : ρ.find t = some (pl t v)) (hr : RVals P ρ w rs vs) : RVals P ρ w (.tmp t :: rs) (v :: vs) := ⟨h, hr⟩
/-! Rows of bools -/
def andK (k : IntKind) (x y : Int) : Int := k.wrap (BitVec.ofInt 64 x &&& BitVec.ofInt 64 y).toNat
end

/-! Recursion by fuel -/
open Classical in
noncomputable def recM {R : Type} (F : Nat → Option R) : Option R := if h : ∃ n, ∃ r, F n = some r then F (Classical.choose h) else none
theorem recM_some {R : Type} {F : Nat → Option R} {r : R} (h : recM F = some r) : ∃ n, F n = some r := by
  unfold recM at h
  split at h
  · exact ⟨_, h⟩
  · cases h
theorem recM_of {R : Type} {F : Nat → Option R} {r : R} (hF : ∀ n r', F n = some r' → r' = r) (n : Nat) (hn : F n = some r) : recM F = some r := by
  have hx : ∃ n, ∃ r, F n = some r := ⟨n, r, hn⟩
  unfold recM
  rw [dif_pos hx]
  obtain ⟨r', hr'⟩ := Classical.choose_spec hx
  rw [hr', hF _ _ hr']
end Go.GL
