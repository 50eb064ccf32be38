/-
  A small library of our own: rows of rows ([][]int), read or of the call's own.
-/
import Derived.Test.YtdbdcbejmbpbmaaDoorLibC
namespace Go.GL
open Go Go.RowKit
variable {Ds : List Nat} {ro : Option Nat}

/-! Returning -/
section
variable {P : Program} {fn : Func} {R : Ending → World → Prop} {a : Act} {w : World} {n : Nat} {ρ : Env}
def RVal (P : Program) (ρ : Env) (w : World) : ResultVar → Value → Prop
  | .tmp t, v => ρ.find t = some (pl t v)
  | .cell t ty, v => ∃ ad, ρ.find t = some (pl t (.pointer (some ad))) ∧ (loadVar ty ad).run P w = .ok v w
def RVals (P : Program) (ρ : Env) (w : World) : List ResultVar → List Value → Prop
  | [], [] => True
  | r :: rs, v :: vs => RVal P ρ w r v ∧ RVals P ρ w rs vs
  | _, _ => False
def tupOf : List Value → Value
  | [v] => v
  | vs => .tuple vs.toArray
def resF (tmps : Array Value) : ResultVar → Sem Value
  | .tmp t => pure (tmps.getD t undef)
  | .cell x t => do loadVar t (← asAddr (tmps.getD x undef))
theorem results_eq (tmps : Array Value) : results fn tmps = (do
    let vs ← fn.results.mapM (resF tmps)
    pure (if h : vs.size = 1 then vs[0] else .tuple vs)) := by
  rfl
theorem retV {rs : List ResultVar} {vs : List Value} {V : Value} (hF : FrD [] n ρ a) (hr : fn.results = rs.toArray) (h : RVals P ρ w rs vs) (hV : tupOf vs = V) (hR : R (.returned V) w) : bodyR P fn R .ret a w := by
  subst hV
  refine bodyR_ret (v := tupOf vs) ?_ hF.defers hR
  have key : ∀ (rs : List ResultVar) (vs : List Value), RVals P ρ w rs vs → (rs.mapM (resF a.tmps)).run P w = .ok vs w := by
    intro rs
    induction rs with
    | nil => intro vs h; cases vs with
      | nil => rfl
      | cons v vs => exact h.elim
    | cons r rs ih =>
      intro vs h
      cases vs with
      | nil => exact h.elim
      | cons v vs =>
        have h2 := ih vs h.2
        have h1 := h.1
        have h3 : (resF a.tmps r).run P w = .ok v w := by
          cases r with
          | tmp t =>
            have := hF.getD h1
            show (pure (a.tmps.getD t undef) : Sem Value).run P w = _
            rw [this]
            rfl
          | cell x t =>
            obtain ⟨ad, hx, hl⟩ := h1
            have := hF.getD hx
            show (do loadVar t (← asAddr (a.tmps.getD x undef)) : Sem Value).run P w = _
            rw [this, Sem.run_bind]
            exact hl
        rw [List.mapM_cons, Sem.run_bind, h3, Result.andThen_ok, Sem.run_bind, h2]
        rfl
  rw [results_eq, hr, List.mapM_toArray, Sem.run_bind, Sem.run_map, key rs vs h]
  match vs with
  | [] => rfl
  | [v] => rfl
  | _ :: _ :: _ => rfl
end

abbrev Hd := Option Addr × Nat
def geti2 (m : List (List Int)) (i : Int) : List Int := m.getD i.toNat []
def hdA (hd : List Hd) (i : Int) : Option Addr := (hd.getD i.toNat (none, 0)).1
def hdC (hd : List Hd) (i : Int) : Nat := (hd.getD i.toNat (none, 0)).2
def hdV (hd : List Hd) (m : List (List Int)) : List Value := List.zipWith (fun h l => .slice h.1 l.length h.2) hd m
def rowHP (ei : TypeId) (hd : List Hd) (m : List (List Int)) : List HP := List.zipWith (fun h l => own ei (.slice h.1 l.length h.2) (vI l)) hd m

/-- Rows of the call's own, each row of the call's own. -/
def rows (e ei : TypeId) (v : Value) (hd : List Hd) (m : List (List Int)) : HP where
  at_ w f := hd.length = m.length ∧ SepL w (own e v (hdV hd m) :: rowHP ei hd m) f
  loc := fun hk h => ⟨h.1, h.2.loc hk⟩
section
variable {w0 w w' : World} {B : Nat} {p p1 p2 : HP} {l r ps qs : List HP}

theorem Sep.split (h : Sep w0 B w (l ++ p :: r)) (hs : ∀ f, p.at_ w f → ∃ f1 f2, p1.at_ w f1 ∧ p2.at_ w f2 ∧ (∀ k ∈ f1, k ∉ f2) ∧ (∀ k, k ∈ f1 ∨ k ∈ f2 → k ∈ f)) : Sep w0 B w (p1 :: (l ++ p2 :: r)) := by
  obtain ⟨u, hsl, hu⟩ := h.ex
  obtain ⟨f, u', hp, hs', hd, hm⟩ := hsl.take
  obtain ⟨f1, f2, h1, h2, hdd, hsub⟩ := hs f hp
  obtain ⟨u2, hs2, hm2⟩ := SepL.ins h2 hs' (fun k hk => hd k (hsub k (.inr hk)))
  refine ⟨h.base, h.below, f1 ++ u2, .cons h1 hs2 (fun k hk hk' => ?_), fun k hk => hu k ((hm k).2 ?_)⟩
  · rcases (hm2 k).1 hk' with h0 | h0
    · exact hdd k hk h0
    · exact hd k (hsub k (.inl hk)) h0
  · rcases List.mem_append.1 hk with h0 | h0
    · exact .inl (hsub k (.inl h0))
    · rcases (hm2 k).1 h0 with h0 | h0
      · exact .inl (hsub k (.inr h0))
      · exact .inr h0

theorem Sep.join (h : Sep w0 B w (p1 :: (l ++ p2 :: r))) (hs : ∀ f1 f2, p1.at_ w f1 → p2.at_ w f2 → (∀ k ∈ f1, k ∉ f2) → ∃ f, p.at_ w f ∧ ∀ k ∈ f, k ∈ f1 ∨ k ∈ f2) : Sep w0 B w (l ++ p :: r) := by
  obtain ⟨u, hsl, hu⟩ := h.ex
  cases hsl with
  | cons hp1 hsr hd1 =>
    rename_i f1 u0
    obtain ⟨f2, u', hp2, hs', hd, hm⟩ := hsr.take
    obtain ⟨f, hp, hsub⟩ := hs f1 f2 hp1 hp2 (fun k hk hk' => hd1 k hk ((hm k).2 (.inl hk')))
    obtain ⟨u2, hs2, hm2⟩ := SepL.ins hp hs' (fun k hk hk' => by
      rcases hsub k hk with h0 | h0
      · exact hd1 k h0 ((hm k).2 (.inr hk'))
      · exact hd k h0 hk')
    refine ⟨h.base, h.below, u2, hs2, fun k hk => hu k (List.mem_append.2 ?_)⟩
    rcases (hm2 k).1 hk with h0 | h0
    · rcases hsub k h0 with h0 | h0
      · exact .inl h0
      · exact .inr ((hm k).2 (.inl h0))
    · exact .inr ((hm k).2 (.inr h0))

theorem hdV_get {hd : List Hd} {m : List (List Int)} (hl : hd.length = m.length) {i : Int} (hb : 0 ≤ i ∧ i < m.length) :
    (hdV hd m)[i.toNat]? = some (.slice (hdA hd i) (geti2 m i).length (hdC hd i)) := by
  have h1 : i.toNat < m.length := by omega
  unfold hdV hdA hdC geti2
  rw [List.getElem?_zipWith, List.getElem?_eq_getElem h1, List.getElem?_eq_getElem (by omega : i.toNat < hd.length)]
  simp [List.getD_eq_getElem?_getD, List.getElem?_eq_getElem h1, List.getElem?_eq_getElem (by omega : i.toNat < hd.length)]
/-- Rows that read so. -/
structure RdRows (w : World) (B : Nat) (A : Option Addr) (hd : List Hd) (m : List (List Int)) : Prop where
  len : hd.length = m.length
  out : Rd w B A (hdV hd m)
  row : ∀ i : Int, 0 ≤ i ∧ i < m.length → Rd w B (hdA hd i) (vI (geti2 m i)) ∧ (geti2 m i).length ≤ hdC hd i

theorem RdRows.sep {A : Option Addr} {hd : List Hd} {m : List (List Int)} (h : RdRows w0 B A hd m) (hs : Sep w0 B w ps) : RdRows w w.heap.size A hd m :=
  ⟨h.len, h.out.sep hs, fun i hi => ⟨(h.row i hi).1.sep hs, (h.row i hi).2⟩⟩

theorem rd_cellV {A : Option Addr} {xs : List Value} {i : Int} {v : Value} (h : Rd w B A xs) (hv : xs[i.toNat]? = some v) : w.cell? (sAddr A i) = some v := by
  obtain ⟨ad, rfl, _, hc⟩ := h i.toNat v hv
  exact hc

theorem RdRows.cell {A : Option Addr} {hd : List Hd} {m : List (List Int)} (h : RdRows w B A hd m) {i : Int} (hb : 0 ≤ i ∧ i < m.length) : w.cell? (sAddr A i) = some (.slice (hdA hd i) (geti2 m i).length (hdC hd i)) :=
  rd_cellV h.out (hdV_get h.len hb)

variable {e ei : TypeId} {A : Option Addr} {n c : Nat} {hd : List Hd} {m : List (List Int)}

theorem Rd.none_nil {w : World} {B : Nat} {α : Type} {f : α → Value} {l : List α} (h : Rd w B none (l.map f)) : l = [] := by
  cases l with
  | nil => rfl
  | cons x l => obtain ⟨ad, h, _⟩ := h 0 (f x) rfl; cases h

def RowsAll (w : World) (B : Nat) : List Hd → List (List Int) → Prop
  | [], [] => True
  | h :: hd, l :: m => (Rd w B h.1 (vI l) ∧ l.length ≤ h.2) ∧ RowsAll w B hd m
  | _, _ => False

theorem RowsAll.len : ∀ {hd : List Hd} {m : List (List Int)}, RowsAll w B hd m → hd.length = m.length
  | [], [], _ => rfl
  | [], _ :: _, h => h.elim
  | _ :: _, [], h => h.elim
  | _ :: _, _ :: _, h => by simp [RowsAll.len h.2]
theorem RowsAll.get : ∀ {hd : List Hd} {m : List (List Int)}, RowsAll w B hd m → ∀ i : Nat, i < m.length → Rd w B (hdA hd i) (vI (geti2 m i)) ∧ (geti2 m i).length ≤ hdC hd i
  | [], [], _, i, hi => by simp at hi
  | [], _ :: _, h, _, _ => h.elim
  | _ :: _, [], h, _, _ => h.elim
  | h :: hd, l :: m, hr, 0, _ => by simpa [hdA, hdC, geti2] using hr.1
  | h :: hd, l :: m, hr, i + 1, hi => by
    have := RowsAll.get hr.2 i (by simpa using hi)
    simpa [hdA, hdC, geti2] using this

/-! A struct's value stored whole -/
theorem run_loadVar1 {P : Program} {t : TypeId} {a : Addr} {v : Value} (hag : runPure P (isAgg t) = some false) (hc : w.cell? a = some v) : (loadVar t a).run P w = .ok v w := by
  simp [loadVar, runPure_run _ hag, load, Sem.run, hc]

theorem rv_nil {P : Program} {ρ : Env} : RVals P ρ w [] [] := trivial
theorem rv_t {P : Program} {ρ : Env} {t : Nat} {v : Value} {rs : List ResultVar} {vs : List Value} (h : ρ.find t = some (pl t v)) (hr : RVals P ρ w rs vs) : RVals P ρ w (.tmp t :: rs) (v :: vs) := ⟨h, hr⟩
theorem rv_c {P : Program} {ρ : Env} {t : Nat} {ty : TypeId} {ad : Addr} {v : Value} {rs : List ResultVar} {vs : List Value} (h : ρ.find t = some (pl t (.pointer (some ad)))) (hl : (loadVar ty ad).run P w = .ok v w) (hr : RVals P ρ w rs vs) : RVals P ρ w (.cell t ty :: rs) (v :: vs) := ⟨⟨ad, h, hl⟩, hr⟩

/-! Rows of bools -/
end

/-! Recursion by fuel -/
open Classical in
noncomputable def recM {R : Type} (F : Nat → Option R) : Option R := if h : ∃ n, ∃ r, F n = some r then F (Classical.choose h) else none
theorem recM_some {R : Type} {F : Nat → Option R} {r : R} (h : recM F = some r) : ∃ n, F n = some r := by
  unfold recM at h
  split at h
  · exact ⟨_, h⟩
  · cases h
theorem recM_of {R : Type} {F : Nat → Option R} {r : R} (hF : ∀ n r', F n = some r' → r' = r) (n : Nat) (hn : F n = some r) : recM F = some r := by
  have hx : ∃ n, ∃ r, F n = some r := ⟨n, r, hn⟩
  unfold recM
  rw [dif_pos hx]
  obtain ⟨r', hr'⟩ := Classical.choose_spec hx
  rw [hr', hF _ _ hr']
end Go.GL
