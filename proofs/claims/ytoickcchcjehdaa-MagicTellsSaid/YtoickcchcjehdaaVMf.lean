/-
  MagicTells: which numbers are out of range; the product of two squares.
-/
import Derived.Test.YtoickcchcjehdaaVMe
namespace Go.Proofs.Ytoickcchcjehdaa
open Go Go.GL

theorem w64_mulN {a b : Nat} (h : a * b ≤ 9223372036854775807) : w64 ((a : Int) * (b : Int)) = ((a * b : Nat) : Int) := by
  rw [show (a : Int) * (b : Int) = ((a * b : Nat) : Int) by push_cast; rfl, w64_nat h]
theorem w64_addN {a b : Nat} (h : a + b ≤ 9223372036854775807) : w64 ((a : Int) + (b : Int)) = ((a + b : Nat) : Int) := by
  rw [← Int.natCast_add, w64_nat h]

def outB (l : List Int) : Bool := l.any fun x => decide (x < 1) || decide ((l.length : Int) < x)

def mnF (l : List Int) : Nat → Int
  | 0 => geti l 0
  | i + 1 => minI (mnF l i) (geti l ((i + 1 : Nat) : Int))
def mxF (l : List Int) : Nat → Int
  | 0 => geti l 0
  | i + 1 => maxI (mxF l i) (geti l ((i + 1 : Nat) : Int))
theorem mnF_lt {l : List Int} : ∀ {i : Nat}, mnF l i < 1 ↔ ∃ j, j ≤ i ∧ geti l ((j : Nat) : Int) < 1
  | 0 => ⟨fun h => ⟨0, Nat.le_refl _, h⟩, fun ⟨j, hj, h⟩ => by rwa [show j = 0 by omega] at h⟩
  | i + 1 => by
    have e : mnF l (i + 1) < 1 ↔ mnF l i < 1 ∨ geti l ((i + 1 : Nat) : Int) < 1 := by
      show minI _ _ < 1 ↔ _
      unfold minI
      split <;> omega
    rw [e, mnF_lt (i := i)]
    constructor
    · rintro (⟨j, hj, h⟩ | h)
      · exact ⟨j, by omega, h⟩
      · exact ⟨i + 1, Nat.le_refl _, h⟩
    · rintro ⟨j, hj, h⟩
      by_cases e : j = i + 1
      · rw [e] at h; exact .inr h
      · exact .inl ⟨j, by omega, h⟩
theorem mxF_lt {l : List Int} {N : Int} : ∀ {i : Nat}, N < mxF l i ↔ ∃ j, j ≤ i ∧ N < geti l ((j : Nat) : Int)
  | 0 => ⟨fun h => ⟨0, Nat.le_refl _, h⟩, fun ⟨j, hj, h⟩ => by rwa [show j = 0 by omega] at h⟩
  | i + 1 => by
    have e : N < mxF l (i + 1) ↔ N < mxF l i ∨ N < geti l ((i + 1 : Nat) : Int) := by
      show N < maxI _ _ ↔ _
      unfold maxI
      split <;> omega
    rw [e, mxF_lt (i := i)]
    constructor
    · rintro (⟨j, hj, h⟩ | h)
      · exact ⟨j, by omega, h⟩
      · exact ⟨i + 1, Nat.le_refl _, h⟩
    · rintro ⟨j, hj, h⟩
      by_cases e : j = i + 1
      · rw [e] at h; exact .inr h
      · exact .inl ⟨j, by omega, h⟩
theorem ex_mem {l : List Int} (h0 : 0 < l.length) {p : Int → Prop} : (∃ j, j ≤ l.length - 1 ∧ p (geti l ((j : Nat) : Int))) ↔ ∃ x ∈ l, p x := by
  constructor
  · rintro ⟨j, hj, h⟩
    refine ⟨geti l (j : Int), ?_, h⟩
    rw [geti_bang (by omega), getElem!_pos l j (by omega)]
    exact List.getElem_mem _
  · rintro ⟨x, hx, h⟩
    obtain ⟨j, hj, rfl⟩ := List.mem_iff_getElem.1 hx
    exact ⟨j, by omega, by rwa [geti_bang hj, getElem!_pos l j hj]⟩

theorem min_p {l : List Int} (h0 : 0 < l.length) (hl : l.length ≤ 144) : slices_Min_m l = some (mnF l (l.length - 1)) := by
  unfold slices_Min_m
  rw [if_neg (by rw [decide_eq_true_eq]; omega)]
  unfold slices_Min_J1
  rw [asrt_pos (by omega), loop_from (s0 := (geti l 0, (1 : Int))) (r := mnF l (l.length - 1)) (fun i => (mnF l i, ((i + 1 : Nat) : Int))) (l.length - 1) rfl (fun i hi => ?_) ?_, Option.bind_some]
  · rfl
  · unfold slices_Min_L1
    dsimp only
    rw [if_neg (by rw [decide_eq_true_eq]; omega)]
  · unfold slices_Min_L1 slices_Min_J3 slices_Min_J4
    dsimp only
    rw [if_pos (by rw [decide_eq_true_eq]; omega), asrt_pos (by omega), w64_of (by omega)]
    rfl
theorem max_p {l : List Int} (h0 : 0 < l.length) (hl : l.length ≤ 144) : slices_Max_m l = some (mxF l (l.length - 1)) := by
  unfold slices_Max_m
  rw [if_neg (by rw [decide_eq_true_eq]; omega)]
  unfold slices_Max_J1
  rw [asrt_pos (by omega), loop_from (s0 := (geti l 0, (1 : Int))) (r := mxF l (l.length - 1)) (fun i => (mxF l i, ((i + 1 : Nat) : Int))) (l.length - 1) rfl (fun i hi => ?_) ?_, Option.bind_some]
  · rfl
  · unfold slices_Max_L1
    dsimp only
    rw [if_neg (by rw [decide_eq_true_eq]; omega)]
  · unfold slices_Max_L1 slices_Max_J3 slices_Max_J4
    dsimp only
    rw [if_pos (by rw [decide_eq_true_eq]; omega), asrt_pos (by omega), w64_of (by omega)]
    rfl

/-- One of the two squares looked at. -/
theorem out_p {a b l : List Int} {z : Nat} (hz : z < 2) (hg : geti2 ([a, b] : List (List Int)) (z : Int) = l) (h0 : 0 < l.length) (hl : l.length ≤ 144) : magic_Product_J3 a b (z : Int) = if outB l then some (.done (.ret (([] : List Int), 3))) else some (.next ((z + 1 : Nat) : Int)) := by
  unfold magic_Product_J3
  rw [asrt_pos (by omega), hg, min_p h0 hl, Option.bind_some]
  have e1 : mnF l (l.length - 1) < 1 ↔ ∃ x ∈ l, x < 1 := mnF_lt.trans (ex_mem h0 (p := fun x => x < 1))
  have e2 : (l.length : Int) < mxF l (l.length - 1) ↔ ∃ x ∈ l, (l.length : Int) < x := mxF_lt.trans (ex_mem h0 (p := fun x => (l.length : Int) < x))
  have e3 : outB l = true ↔ (∃ x ∈ l, x < 1) ∨ ∃ x ∈ l, (l.length : Int) < x := by
    unfold outB
    rw [List.any_eq_true]
    simp only [Bool.or_eq_true, decide_eq_true_eq]
    constructor
    · rintro ⟨x, hx, h | h⟩
      · exact .inl ⟨x, hx, h⟩
      · exact .inr ⟨x, hx, h⟩
    · rintro (⟨x, hx, h⟩ | ⟨x, hx, h⟩)
      · exact ⟨x, hx, .inl h⟩
      · exact ⟨x, hx, .inr h⟩
  by_cases h1 : mnF l (l.length - 1) < 1
  · rw [if_neg (by simp; omega), Option.bind_some, if_pos (by simp; omega), if_pos (e3.2 (.inl (e1.1 h1)))]
  · rw [if_pos (by simp; omega), max_p h0 hl, Option.bind_some]
    by_cases h2 : (l.length : Int) < mxF l (l.length - 1)
    · rw [if_pos (by simp; omega), if_pos (e3.2 (.inr (e2.1 h2)))]
    · rw [if_neg (by simp; omega), if_neg (fun h => (e3.1 h).elim (fun h => h1 (e1.2 h)) (fun h => h2 (e2.2 h)))]
      unfold magic_Product_J4
      rw [w64_of (by omega)]
      rfl

/-- A number of the product. -/
def vP (a b : List Int) (m i k : Nat) : Int := w64 (w64 (w64 (w64 (geti a (i : Int) - 1) * (m : Int)) * (m : Int)) + geti b (k : Int))
def iP (n m j : Nat) : Nat := j / (n * m) / m * n + j % (n * m) / m
def kP (n m j : Nat) : Nat := j / (n * m) % m * m + j % (n * m) % m
def pP (n m t : Nat) : Nat := (t / (m * m) / n * m + t % (m * m) / m) * n * m + (t / (m * m) % n * m + t % (m * m) % m)
def qP (n m j : Nat) : Nat := iP n m j * (m * m) + kP n m j
def okM (n m : Nat) : Bool := okPQ (pP n m) (qP n m) (n * m * n * m) && (List.range (n * m * n * m)).all fun j => qP n m j / (m * m) == iP n m j && qP n m j % (m * m) == kP n m j
theorem okAllM : ((List.range 13).all fun n => (List.range 13).all fun m => decide (n = 0) || decide (m = 0) || decide (12 < n * m) || okM n m) = true := by kernel_rfl
theorem okM_at {n m : Nat} (h1 : 1 ≤ n) (h2 : 1 ≤ m) (h3 : n * m ≤ 12) : okPQ (pP n m) (qP n m) (n * m * n * m) = true ∧ ∀ j, j < n * m * n * m → qP n m j / (m * m) = iP n m j ∧ qP n m j % (m * m) = kP n m j := by
  have a1 : n ≤ n * m := Nat.le_mul_of_pos_right n h2
  have a2 : m ≤ n * m := Nat.le_mul_of_pos_left m h1
  have h := List.all_eq_true.1 (List.all_eq_true.1 okAllM n (List.mem_range.2 (by omega))) m (List.mem_range.2 (by omega))
  simp only [Bool.or_eq_true, decide_eq_true_eq] at h
  have h := h.resolve_left (by omega)
  unfold okM at h
  rw [Bool.and_eq_true] at h
  refine ⟨h.1, fun j hj => ?_⟩
  have := List.all_eq_true.1 h.2 j (List.mem_range.2 hj)
  simpa [Bool.and_eq_true] using this

section
variable {a b : List Int} {n m : Nat} (hn : 1 ≤ n) (hm : 1 ≤ m) (hnm : n * m ≤ 12) (ha : n * n = a.length) (hb : m * m = b.length)
include hn hm hnm
theorem n12 : n ≤ 12 ∧ m ≤ 12 := by
  have a1 : n ≤ n * m := Nat.le_mul_of_pos_right n hm
  have a2 : m ≤ n * m := Nat.le_mul_of_pos_left m hn
  omega
theorem nm4 : n * m * n * m ≤ 144 := by
  have _ := hn
  have _ := hm
  have : n * m * n * m = (n * m) * (n * m) := by rw [Nat.mul_assoc]
  rw [this]
  exact sq_le hnm
include ha hb
theorem prod_p (sa : magic_side_m a = some (n : Int)) (sb : magic_side_m b = some (m : Int)) : magic_Product_m a b = some (if outB a || outB b then (([] : List Int), 3) else ((List.range (n * m * n * m)).map fun j => vP a b m (iP n m j) (kP n m j), 0)) := by
  obtain ⟨hn2, hm2⟩ := n12 hn hm hnm
  have na := nn_le hn hn2
  have nb := nn_le hm hm2
  have h4 := nm4 hn hm hnm
  have pa : 0 < n * n := Nat.mul_pos hn hn
  have pb : 0 < m * m := Nat.mul_pos hm hm
  unfold magic_Product_m
  rw [sa, Option.bind_some, sb, Option.bind_some, w64_mulN (by omega), if_neg (by simp; omega)]
  unfold magic_Product_J1
  have hL : loop (magic_Product_L1 a b) 0 = some (if outB a || outB b then (Fl.ret (([] : List Int), (3 : Int)) : Fl Unit (List Int × Int)) else Fl.go ()) := by
    have hs : ∀ (z : Nat) (l : List Int), z < 2 → geti2 ([a, b] : List (List Int)) (z : Int) = l → 0 < l.length → l.length ≤ 144 → magic_Product_L1 a b (z : Int) = if outB l then some (.done (.ret (([] : List Int), 3))) else some (.next ((z + 1 : Nat) : Int)) := fun z l hz hg h0 hl => by
      unfold magic_Product_L1
      dsimp only
      rw [if_pos (by rw [decide_eq_true_eq]; omega), out_p hz hg h0 hl]
    have s0 := hs 0 a (by omega) rfl (by omega) (by omega)
    have s1 := hs 1 b (by omega) rfl (by omega) (by omega)
    cases o0 : outB a with
    | true =>
      rw [o0, if_pos rfl] at s0
      exact loop_done s0
    | false =>
      rw [o0, if_neg (by decide)] at s0
      cases o1 : outB b with
      | true =>
        rw [o1, if_pos rfl] at s1
        exact loop_next s0 (loop_done s1) rfl
      | false =>
        rw [o1, if_neg (by decide)] at s1
        exact loop_next s0 (loop_next s1 (loop_done (by rfl)) rfl) rfl
  rw [hL, Option.bind_some]
  by_cases ho : (outB a || outB b) = true
  · rw [if_pos ho, if_pos ho]; rfl
  · rw [if_neg ho, if_neg ho]
    show magic_Product_J2 a b (n : Int) (m : Int) = _
    unfold magic_Product_J2
    have hG : ∀ y x, y < n * m → x < n * m → iP n m (y * (n * m) + x) = y / m * n + x / m ∧ kP n m (y * (n * m) + x) = y % m * m + x % m := fun y x hy hx => by
      have e1 : (y * (n * m) + x) / (n * m) = y := by
        rw [Nat.mul_comm, Nat.mul_add_div (by omega), Nat.div_eq_of_lt hx]; rfl
      have e2 : (y * (n * m) + x) % (n * m) = x := by
        rw [Nat.mul_comm, Nat.mul_add_mod, Nat.mod_eq_of_lt hx]
      unfold iP kP
      rw [e1, e2]
      exact ⟨rfl, rfl⟩
    rw [loop_from (s0 := (([] : List Int), (0 : Int))) (r := (List.range (n * m * (n * m))).map fun j => vP a b m (iP n m j) (kP n m j)) (fun y => ((List.range (y * (n * m))).map fun j => vP a b m (iP n m j) (kP n m j), (y : Int))) (n * m) (by rw [Nat.zero_mul]; rfl) (fun y hy => ?_) ?_, Option.bind_some]
    · show some (_, (0 : Int)) = _
      rw [show n * m * n * m = n * m * (n * m) by rw [Nat.mul_assoc]]
    · unfold magic_Product_L2
      dsimp only
      rw [w64_mulN (by omega), if_neg (by simp)]
    · unfold magic_Product_L2 magic_Product_J6
      dsimp only
      rw [w64_mulN (by omega), if_pos (by rw [decide_eq_true_eq]; omega), loop_from (s0 := ((List.range (y * (n * m))).map (fun j => vP a b m (iP n m j) (kP n m j)), (0 : Int))) (r := (List.range (y * (n * m) + n * m)).map fun j => vP a b m (iP n m j) (kP n m j)) (fun x => ((List.range (y * (n * m) + x)).map fun j => vP a b m (iP n m j) (kP n m j), (x : Int))) (n * m) rfl (fun x hx => ?_) ?_, Option.bind_some]
      · unfold magic_Product_K3 magic_Product_J7
        dsimp only
        rw [w64_of (x := (y : Int) + 1) (by omega), show y * (n * m) + n * m = (y + 1) * (n * m) by rw [Nat.add_mul, Nat.one_mul]]
        rfl
      · unfold magic_Product_L3
        dsimp only
        rw [w64_mulN (by omega), if_neg (by simp)]
      · obtain ⟨g1, g2⟩ := hG y x hy hx
        have y1 : y / m < n := Nat.div_lt_of_lt_mul (by rwa [Nat.mul_comm])
        have x1 : x / m < n := Nat.div_lt_of_lt_mul (by rwa [Nat.mul_comm])
        have y2 := Nat.mod_lt y hm
        have x2 := Nat.mod_lt x hm
        have b1 := ix_lt hn hn2 y1 x1
        have b2 := ix_lt hm hm2 y2 x2
        unfold magic_Product_L3 magic_Product_J8 magic_Product_J9
        dsimp only
        rw [w64_mulN (by omega), if_pos (by rw [decide_eq_true_eq]; omega), tdiv_nat, tdiv_nat, tmod_nat, tmod_nat]
        have hyx : y * (n * m) + x ≤ 144 := by
          have := ix_lt (n := n * m) (Nat.mul_pos hn hm) hnm hy hx
          have := sq_le hnm
          omega
        have eR : (List.range (y * (n * m) + (x + 1))).map (fun j => vP a b m (iP n m j) (kP n m j)) = (List.range (y * (n * m) + x)).map (fun j => vP a b m (iP n m j) (kP n m j)) ++ [vP a b m (y / m * n + x / m) (y % m * m + x % m)] := by
          rw [← Nat.add_assoc, List.range_succ, List.map_append, List.map_cons, List.map_nil, g1, g2]
        clear g1 g2
        show _ = some (St.next ((List.range (y * (n * m) + (x + 1))).map (fun j => vP a b m (iP n m j) (kP n m j)), ((x + 1 : Nat) : Int)))
        rw [eR]
        clear eR
        have hlen : ((List.range (y * (n * m) + x)).map fun j => vP a b m (iP n m j) (kP n m j)).length = y * (n * m) + x := by simp
        generalize (List.range (y * (n * m) + x)).map (fun j => vP a b m (iP n m j) (kP n m j)) = cur at *
        generalize y / m = y' at *
        generalize x / m = x' at *
        generalize y % m = y'' at *
        generalize x % m = x'' at *
        rw [w64_nat (k := y') (by omega), w64_nat (k := x') (by omega), w64_mulN (a := y') (by omega), w64_addN (by omega), w64_mulN (a := y'') (by omega), w64_addN (by omega), asrt_pos (by omega), asrt_pos (by omega), asrt_pos (by omega), asrt_pos (by omega), asrt_pos (by omega), asrt_pos (by omega), asrt_pos (by rw [hlen]; unfold bigN; omega), w64_of (x := (x : Int) + 1) (by omega)]
        rfl
end
end Go.Proofs.Ytoickcchcjehdaa
