/-
  Jumps (from, over, to) in the order of from and to: where 'over' is the middle of both, slices.SortFunc's contract serves by the pairs.
-/
import Derived.Test.YtjfloofoobllaaaLibSF
namespace Go.GL
open Go Go.RowKit Go.Sort Go.Proofs Go.Shelf
variable {Ds : List Nat} {ro : Option Nat}

def cfP (x y : Int × Int) : Int := orI (cmpI x.1 y.1) (cmpI x.2 y.2)
def cfJ (x y : Int × Int × Int) : Int := orI (cmpI x.1 y.1) (cmpI x.2.2 y.2.2)
def midJ (x : Int × Int) : Int × Int × Int := (x.1, (x.1 + x.2) / 2, x.2)
def LtP (x y : Int × Int) : Prop := x.1 < y.1 ∨ (x.1 = y.1 ∧ x.2 < y.2)
theorem cfP_lt (x y : Int × Int) : ltOf cfP x y = true ↔ LtP x y := by
  obtain ⟨a, b⟩ := x
  obtain ⟨d, e⟩ := y
  unfold ltOf cfP orI cmpI LtP
  simp only [decide_eq_true_eq]
  by_cases h1 : a < d
  · simp [h1]
  · by_cases h2 : d < a
    · simp [h1, h2]; omega
    · have h3 : a = d := by omega
      subst h3
      by_cases h4 : b < e
      · simp [h4]
      · by_cases h5 : e < b <;> simp [h4, h5]
theorem cfP_ltF (x y : Int × Int) : ltOf cfP x y = false ↔ ¬ LtP x y := by rw [← cfP_lt]; simp
theorem cfP_swo : SWO (ltOf cfP) where
  irrefl x := by rw [cfP_ltF]; unfold LtP; omega
  trans x y z := by rw [cfP_lt, cfP_lt, cfP_lt]; unfold LtP; omega
  ntrans x y z := by rw [cfP_ltF, cfP_ltF, cfP_ltF]; unfold LtP; omega
theorem cfP_tot (x y : Int × Int) (h1 : ltOf cfP x y = false) (h2 : ltOf cfP y x = false) : x = y := by
  rw [cfP_ltF] at h1 h2
  obtain ⟨a, b⟩ := x
  obtain ⟨d, e⟩ := y
  unfold LtP at h1 h2
  simp only at h1 h2
  have : a = d ∧ b = e := by omega
  rw [this.1, this.2]

theorem cfJ_mid (x y : Int × Int) : cfJ (midJ x) (midJ y) = cfP x y := by
  unfold cfJ cfP midJ
  exact rfl
theorem sortJ_map (l : List (Int × Int)) : sortK cfJ (l.map midJ) = (sortK cfP l).map midJ := by
  unfold sortK
  rw [List.map_mergeSort (r := fun x y => !(ltOf cfP y x)) (s := fun x y => !(ltOf cfJ y x)) (fun x _ y _ => by unfold ltOf; rw [cfJ_mid])]

/-- All middles are right. -/
def midOk (l : List (Int × Int × Int)) : Prop := ∀ x ∈ l, x.2.1 = (x.1 + x.2.2) / 2
instance (l : List (Int × Int × Int)) : Decidable (midOk l) := by unfold midOk; exact inferInstance
theorem midOk_map {l : List (Int × Int × Int)} (h : midOk l) : (l.map fun x => (x.1, x.2.2)).map midJ = l := by
  rw [List.map_map]
  conv => rhs; rw [← List.map_id l]
  refine List.map_congr_left fun x hx => ?_
  show (x.1, (x.1 + x.2.2) / 2, x.2.2) = x
  rw [← h x hx]

theorem sortJ_own {P : Program} {ρ : Ren} (Ly : SlLaysF0.n6 P ρ) {F : Int × Int × Int → List Value} (hF : EncK F 3) (aE : ∀ w, (isAgg (ρ.t 24)).run P w = .ok true w) (zE : ∀ w, (Go.sizeOf (ρ.t 24)).run P w = .ok 3 w)
    {g : Nat} (eg : ∀ args w, (callFunc g args).run P w = .ok (.enter g args) w) (hcmp : CmpOk P g F cfJ)
    {et : TypeId} {A : Option Addr} {n c : Nat} {m : List (Int × Int × Int)} (hmid : midOk m) {w0 w : World} {B : Nat} {fs : List HP} (hS : Sep w0 B w (ownK et 3 A n c (m.flatMap F) :: fs)) (hmx : (m.length : Int) ≤ bigN) :
    Calls P (ρ.f 6) #[.slice A n c, .func (.func g) #[] #[]] w fun e w' => ∃ v, e = .returned v ∧ v = .tuple #[] ∧ Sep w0 B w' (ownK et 3 A n c ((sortK cfJ m).flatMap F) :: fs) := by
  have hF2 : EncK (fun x : Int × Int => F (midJ x)) 3 := ⟨fun x => hF.len _, fun x => hF.one _, hF.pos⟩
  have e1 : m.flatMap F = (m.map fun x => (x.1, x.2.2)).flatMap fun x => F (midJ x) := by
    conv => lhs; rw [← midOk_map hmid]
    rw [List.flatMap_map]
  have e2 : (sortK cfJ m).flatMap F = (sortK cfP (m.map fun x => (x.1, x.2.2))).flatMap fun x => F (midJ x) := by
    conv => lhs; rw [← midOk_map hmid]
    rw [sortJ_map, List.flatMap_map]
  rw [e1] at hS
  rw [e2]
  exact sortF_own Ly hF2 aE zE cfP_swo cfP_tot eg (fun x y W => hcmp (midJ x) (midJ y) W) hS (by rw [List.length_map]; exact hmx)
end Go.GL
