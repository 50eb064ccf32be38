/-
  MagicTells: the forms of a square.
-/
import Derived.Test.YtoickcchcjehdaaVMd
namespace Go.Proofs.Ytoickcchcjehdaa
open Go Go.GL

/-- Places written one by one. -/
def spr (p : Nat → Nat) (l : List Int) (N : Nat) : Nat → List Int
  | 0 => List.replicate N 0
  | i + 1 => (spr p l N i).set (p i) (geti l (i : Int))
def okPQ (p q : Nat → Nat) (N : Nat) : Bool := (List.range N).all fun i => decide (p i < N) && q (p i) == i && decide (q i < N) && p (q i) == i
theorem okPQ_at {p q : Nat → Nat} {N : Nat} (h : okPQ p q N = true) {i : Nat} (hi : i < N) : p i < N ∧ q (p i) = i ∧ q i < N ∧ p (q i) = i := by
  have := List.all_eq_true.1 h i (List.mem_range.2 hi)
  simpa [Bool.and_eq_true, and_assoc] using this
def img (l : List Int) (is : List Nat) : List Int := is.map fun i => geti l ((i : Nat) : Int)
theorem spr_img {p q : Nat → Nat} {N : Nat} (h : okPQ p q N = true) (l : List Int) : spr p l N N = img l ((List.range N).map q) := by
  have key : ∀ k, k ≤ N → spr p l N k = mr N (fun j => if q j < k then geti l (q j : Int) else 0) := by
    intro k
    induction k with
    | zero =>
      intro _
      show List.replicate N (0 : Int) = _
      rw [mr_rep]
      exact mr_congr fun j hj => by rw [if_neg (by omega)]
    | succ k ih =>
      intro hk
      show (spr p l N k).set (p k) (geti l (k : Int)) = _
      rw [ih (by omega), mr_set]
      refine mr_congr fun j hj => ?_
      by_cases e : j = p k
      · have := (okPQ_at h (show k < N by omega)).2.1
        rw [if_pos e, e, this, if_pos (by omega)]
      · rw [if_neg e]
        have hne : q j ≠ k := fun e2 => e (by rw [← e2, (okPQ_at h hj).2.2.2])
        by_cases e3 : q j < k
        · rw [if_pos e3, if_pos (by omega)]
        · rw [if_neg e3, if_neg (by omega)]
  rw [key N (Nat.le_refl _)]
  unfold img mr
  rw [List.map_map]
  exact List.map_congr_left fun j hj => by
    show _ = geti l (q j : Int)
    rw [if_pos (okPQ_at h (List.mem_range.1 hj)).2.2.1]

def pT (n i : Nat) : Nat := i % n * n + n - 1 - i / n
def pM (n i : Nat) : Nat := i / n * n + n - 1 - i % n
def qT (n j : Nat) : Nat := (n - 1 - j % n) * n + j / n
def aW (n w i : Nat) : Nat := if w % 2 = 1 then n - 1 - i % n else i % n
def bW (n w i : Nat) : Nat := if w / 2 % 2 = 1 then n - 1 - i / n else i / n
def pW (n w i : Nat) : Nat := if w / 4 % 2 = 1 then aW n w i * n + bW n w i else bW n w i * n + aW n w i
def qW (n w j : Nat) : Nat :=
  let a := if w / 4 % 2 = 1 then j / n else j % n
  let b := if w / 4 % 2 = 1 then j % n else j / n
  (if w / 2 % 2 = 1 then n - 1 - b else b) * n + (if w % 2 = 1 then n - 1 - a else a)
/-- The places from which a form's numbers come. -/
def fT (n : Nat) : Nat → Nat → Nat
  | 0, j => j
  | k + 1, j => fT n k (qT n j)
def ixP (n : Nat) : Nat → List (List Nat)
  | 0 => []
  | k + 1 => ixP n k ++ [(List.range (n * n)).map (fT n k), (List.range (n * n)).map fun j => fT n k (pM n j)]
def ixD (n k : Nat) : List (List Nat) := (List.range k).map fun w => (List.range (n * n)).map (qW n w)
def okN (n : Nat) : Bool := okPQ (pT n) (qT n) (n * n) && okPQ (pM n) (pM n) (n * n) && (List.range 8).all (fun w => okPQ (pW n w) (qW n w) (n * n)) && (ixP n 4).all (fun x => (ixD n 8).contains x) && (ixD n 8).all (fun x => (ixP n 4).contains x)
theorem okAll : ((List.range 13).all fun n => n == 0 || okN n) = true := by kernel_rfl
theorem ok_n {n : Nat} (h1 : 1 ≤ n) (h2 : n ≤ 12) : okPQ (pT n) (qT n) (n * n) = true ∧ okPQ (pM n) (pM n) (n * n) = true ∧ (∀ w, w < 8 → okPQ (pW n w) (qW n w) (n * n) = true) ∧ ∀ x, x ∈ ixP n 4 ↔ x ∈ ixD n 8 := by
  have h := List.all_eq_true.1 okAll n (List.mem_range.2 (by omega))
  rw [Bool.or_eq_true, beq_iff_eq] at h
  have h := h.resolve_left (by omega)
  unfold okN at h
  simp only [Bool.and_eq_true] at h
  obtain ⟨⟨⟨⟨a, b⟩, c⟩, d⟩, e⟩ := h
  refine ⟨a, b, fun w hw => List.all_eq_true.1 c w (List.mem_range.2 hw), fun x => ⟨fun hx => ?_, fun hx => ?_⟩⟩
  · simpa using List.all_eq_true.1 d x hx
  · simpa using List.all_eq_true.1 e x hx

theorem img_length (l : List Int) (is : List Nat) : (img l is).length = is.length := by simp [img]
theorem img_geti {l : List Int} {N : Nat} {g : Nat → Nat} {j : Nat} (hj : j < N) : geti (img l ((List.range N).map g)) (j : Int) = geti l (g j : Int) := by
  unfold img
  rw [List.map_map]
  exact mr_geti (g := fun j => geti l (g j : Int)) hj
theorem img_img {l : List Int} {N : Nat} {f : Nat → Nat} {is : List Nat} (h : ∀ j ∈ is, j < N) : img (img l ((List.range N).map f)) is = img l (is.map f) := by
  show is.map (fun i => geti (img l ((List.range N).map f)) ((i : Nat) : Int)) = (is.map f).map (fun i => geti l ((i : Nat) : Int))
  rw [List.map_map]
  exact List.map_congr_left fun j hj => img_geti (h j hj)
theorem img_id (l : List Int) : img l (List.range l.length) = l := by
  apply List.ext_getElem
  · simp [img]
  · intro i h1 h2
    simp only [img, List.getElem_map, List.getElem_range]
    rw [geti_bang h2, getElem!_pos l i h2]

section
variable {l : List Int} {n : Nat} (h1 : 1 ≤ n) (h2 : n ≤ 12)
include h1 h2
theorem div_lt {i : Nat} (hi : i < n * n) : i / n < n := by
  have _ := h1
  have _ := h2
  exact Nat.div_lt_of_lt_mul hi
theorem ixT {i : Nat} (hi : i < n * n) : w64 (w64 (w64 (w64 (Int.tmod (i : Int) (n : Int) * (n : Int)) + (n : Int)) - 1) - w64 (Int.tdiv (i : Int) (n : Int))) = ((pT n i : Nat) : Int) := by
  have a := Nat.mod_lt i h1
  have b := div_lt h1 h2 hi
  have h4 := nn_le h1 h2
  have h3 : (i % n + 1) * n ≤ n * n := Nat.mul_le_mul_right n a
  rw [Nat.add_mul] at h3
  unfold pT
  rw [tmod_nat, tdiv_nat]
  generalize i % n = x at *
  generalize i / n = y at *
  rw [show (x : Int) * (n : Int) = ((x * n : Nat) : Int) by push_cast; rfl, w64_nat (by omega), ← Int.natCast_add, w64_nat (by omega), w64_nat (k := y) (by omega), w64_of (x := ((x * n + n : Nat) : Int) - 1) (by omega), w64_of (by omega)]
  omega
theorem ixM {i : Nat} (hi : i < n * n) : w64 (w64 (w64 (w64 (w64 (Int.tdiv (i : Int) (n : Int)) * (n : Int)) + (n : Int)) - 1) - Int.tmod (i : Int) (n : Int)) = ((pM n i : Nat) : Int) := by
  have a := Nat.mod_lt i h1
  have b := div_lt h1 h2 hi
  have h4 := nn_le h1 h2
  have h3 : (i / n + 1) * n ≤ n * n := Nat.mul_le_mul_right n b
  rw [Nat.add_mul] at h3
  unfold pM
  rw [tmod_nat, tdiv_nat]
  generalize i % n = x at *
  generalize i / n = y at *
  rw [w64_nat (k := y) (by omega), show (y : Int) * (n : Int) = ((y * n : Nat) : Int) by push_cast; rfl, w64_nat (by omega), ← Int.natCast_add, w64_nat (by omega), w64_of (x := ((y * n + n : Nat) : Int) - 1) (by omega), w64_of (by omega)]
  omega

theorem turn_p {now : List Int} (hn : now.length = n * n) : loop (magic_Forms_L2 (n : Int) now (List.replicate (n * n) 0) (List.replicate (n * n) 0)) (List.replicate (n * n) 0, List.replicate (n * n) 0, 0) = some (spr (pT n) now (n * n) (n * n), spr (pM n) now (n * n) (n * n)) := by
  obtain ⟨o1, o2, _, _⟩ := ok_n h1 h2
  rw [loop_from (s0 := (List.replicate (n * n) (0 : Int), List.replicate (n * n) (0 : Int), (0 : Int))) (r := (spr (pT n) now (n * n) (n * n), spr (pM n) now (n * n) (n * n))) (fun i => (spr (pT n) now (n * n) i, spr (pM n) now (n * n) i, (i : Int))) (n * n) rfl (fun i hi => ?_) ?_]
  · unfold magic_Forms_L2
    dsimp only
    rw [if_neg (by rw [hn]; simp)]
  · have h4 := nn_le h1 h2
    have a := (okPQ_at o1 hi).1
    have b := (okPQ_at o2 hi).1
    unfold magic_Forms_L2 magic_Forms_J7 magic_Forms_J8
    dsimp only
    rw [if_pos (by rw [hn, decide_eq_true_eq]; omega), ixT h1 h2 hi, ixM h1 h2 hi, asrt_pos (by omega), asrt_pos (by omega), asrt_pos (by omega), asrt_pos (by rw [List.length_replicate]; omega), asrt_pos (by rw [List.length_replicate]; omega), Int.toNat_natCast, Int.toNat_natCast, w64_of (x := (i : Int) + 1) (by omega)]
    rfl

/-- The squares now turned. -/
def nowF (l : List Int) (n k : Nat) : List Int := img l ((List.range (n * n)).map (fT n k))
def outF (l : List Int) (n k : Nat) : List (List Int) := (ixP n k).map (img l)
theorem outF_len (k : Nat) : (outF l n k).length = 2 * k := by
  have _ := h1
  have _ := h2
  unfold outF
  rw [List.length_map]
  induction k with
  | zero => rfl
  | succ k ih => show (ixP n k ++ _).length = _; rw [List.length_append, ih]; rfl
theorem forms_p (h3 : n * n = l.length) (hs : magic_side_m l = some (n : Int)) : magic_Forms_m l = some (compR (sortK cmpL ((ixP n 4).map (img l))), 0) := by
  obtain ⟨o1, o2, _, _⟩ := ok_n h1 h2
  have h4 := nn_le h1 h2
  unfold magic_Forms_m
  rw [hs, Option.bind_some, if_neg (by rw [beq_iff_eq]; omega)]
  unfold magic_Forms_J1 slices_Clone_m slices_Clone_J1
  rw [asrt_pos (by unfold bigN; omega), Option.bind_some, List.nil_append, loop_from (s0 := (([] : List (List Int)), l, (0 : Int))) (r := outF l n 4) (fun k => (outF l n k, nowF l n k, (k : Int))) 4 ?_ (fun k hk => ?_) ?_, Option.bind_some]
  · unfold magic_Forms_K1 magic_Forms_J2 slices_SortFunc_2_m slices_CompactFunc_2_m
    dsimp only
    rw [asrt_pos (by rw [outF_len h1 h2]; decide), Option.bind_some, asrt_pos (by rw [sortK_length, outF_len h1 h2]; decide), Option.bind_some]
    rfl
  · have : nowF l n 0 = l := by
      unfold nowF
      rw [show (List.range (n * n)).map (fT n 0) = List.range (n * n) from by
        conv => rhs; rw [← List.map_id (List.range (n * n))]
        rfl, h3, img_id]
    show (([] : List (List Int)), nowF l n 0, (0 : Int)) = _
    rw [this]
  · rfl
  · have hnl : (nowF l n k).length = n * n := by unfold nowF; rw [img_length]; simp
    unfold magic_Forms_L1 magic_Forms_J3 magic_Forms_J5
    dsimp only
    rw [if_pos (by rw [decide_eq_true_eq]; omega), w64_sq (by omega), asrt_pos (by unfold bigN; omega), asrt_pos (by unfold bigN; omega), Int.toNat_natCast, turn_p h1 h2 hnl, Option.bind_some]
    unfold magic_Forms_K2 magic_Forms_J6 magic_Forms_J4
    dsimp only
    rw [asrt_pos (by rw [outF_len h1 h2]; unfold bigR; omega), w64_of (x := (k : Int) + 1) (by omega), spr_img o1, spr_img o2]
    have e1 : img (nowF l n k) ((List.range (n * n)).map (qT n)) = nowF l n (k + 1) := by
      unfold nowF
      rw [img_img (fun j hj => by obtain ⟨x, hx, rfl⟩ := List.mem_map.1 hj; exact (okPQ_at o1 (List.mem_range.1 hx)).2.2.1), List.map_map]
      rfl
    have e2 : img (nowF l n k) ((List.range (n * n)).map (pM n)) = img l ((List.range (n * n)).map fun j => fT n k (pM n j)) := by
      unfold nowF
      rw [img_img (fun j hj => by obtain ⟨x, hx, rfl⟩ := List.mem_map.1 hj; exact (okPQ_at o2 (List.mem_range.1 hx)).2.2.1), List.map_map]
      rfl
    rw [e1, e2]
    have e3 : outF l n k ++ [nowF l n k, img l ((List.range (n * n)).map fun j => fT n k (pM n j))] = outF l n (k + 1) := by
      unfold outF
      show _ = (ixP n k ++ _).map _
      rw [List.map_append]
      rfl
    rw [e3]
    rfl

omit h1 h2 in
theorem bA1 : ∀ w : Nat, w < 8 → (bAnd (w : Int) 1 == 1) = decide (w % 2 = 1) := by decide +kernel
omit h1 h2 in
theorem bA2 : ∀ w : Nat, w < 8 → (bAnd (w : Int) 2 == 2) = decide (w / 2 % 2 = 1) := by decide +kernel
omit h1 h2 in
theorem bA4 : ∀ w : Nat, w < 8 → (bAnd (w : Int) 4 == 4) = decide (w / 4 % 2 = 1) := by decide +kernel

theorem way_d (h3 : n * n = l.length) {w : Nat} (hw : w < 8) : loop (gameroomref_MagicForms_L2 l (n : Int) (w : Int)) (List.replicate (n * n) 0, 0) = some (img l ((List.range (n * n)).map (qW n w))) := by
  obtain ⟨_, _, o3, _⟩ := ok_n h1 h2
  have o := o3 w hw
  have h4 := nn_le h1 h2
  rw [← spr_img o, loop_from (s0 := (List.replicate (n * n) (0 : Int), (0 : Int))) (r := spr (pW n w) l (n * n) (n * n)) (fun i => (spr (pW n w) l (n * n) i, (i : Int))) (n * n) rfl (fun i hi => ?_) ?_]
  · unfold gameroomref_MagicForms_L2
    dsimp only
    rw [if_neg (by rw [h3]; simp)]
  · have a := Nat.mod_lt i h1
    have b := div_lt h1 h2 hi
    have hp := (okPQ_at o hi).1
    have J9 : ∀ a b : Nat, a < n → b < n → gameroomref_MagicForms_J9 l (n : Int) (spr (pW n w) l (n * n) i) (i : Int) (a : Int) (b : Int) = some (.next ((spr (pW n w) l (n * n) i).set (b * n + a) (geti l (i : Int)), ((i + 1 : Nat) : Int))) := fun a b ha hb => by
      obtain ⟨e, hlt⟩ := ixn h1 h2 b a hb ha
      unfold gameroomref_MagicForms_J9 gameroomref_MagicForms_J6
      rw [e, asrt_pos (by omega), asrt_pos (by rw [Int.toNat_natCast]; omega), Int.toNat_natCast, w64_of (x := (i : Int) + 1) (by omega)]
      rfl
    have J8 : ∀ a b : Nat, a < n → b < n → gameroomref_MagicForms_J8 l (n : Int) (w : Int) (spr (pW n w) l (n * n) i) (i : Int) (a : Int) (b : Int) = some (.next ((spr (pW n w) l (n * n) i).set (if w / 4 % 2 = 1 then a * n + b else b * n + a) (geti l (i : Int)), ((i + 1 : Nat) : Int))) := fun a b ha hb => by
      unfold gameroomref_MagicForms_J8
      rw [bA4 w hw]
      by_cases e : w / 4 % 2 = 1
      · rw [if_pos (by simpa using e), if_pos e, J9 b a hb ha]
      · rw [if_neg (by simpa using e), if_neg e, J9 a b ha hb]
    have J7 : ∀ a : Nat, a < n → gameroomref_MagicForms_J7 l (n : Int) (w : Int) (spr (pW n w) l (n * n) i) (i : Int) (a : Int) = some (.next ((spr (pW n w) l (n * n) i).set (if w / 4 % 2 = 1 then a * n + bW n w i else bW n w i * n + a) (geti l (i : Int)), ((i + 1 : Nat) : Int))) := fun a ha => by
      unfold gameroomref_MagicForms_J7
      rw [bA2 w hw, tdiv_nat, w64_nat (k := i / n) (Nat.le_trans (Nat.le_of_lt b) (by omega))]
      unfold bW
      generalize i / n = y at *
      by_cases e : w / 2 % 2 = 1
      · rw [if_pos (by simpa using e), if_pos e, show w64 (w64 ((n : Int) - 1) - (y : Int)) = ((n - 1 - y : Nat) : Int) by rw [w64_of (x := (n : Int) - 1) (by omega), w64_of (by omega)]; omega, J8 a _ ha (by omega)]
      · rw [if_neg (by simpa using e), if_neg e, J8 a _ ha b]
    unfold gameroomref_MagicForms_L2 gameroomref_MagicForms_J5
    dsimp only
    rw [if_pos (by rw [decide_eq_true_eq]; omega), asrt_pos (by omega), asrt_pos (by omega), bA1 w hw, tmod_nat]
    show _ = some (St.next ((spr (pW n w) l (n * n) i).set (pW n w i) (geti l (i : Int)), ((i + 1 : Nat) : Int)))
    generalize spr (pW n w) l (n * n) i = cur at J7 ⊢
    unfold pW aW
    by_cases e : w % 2 = 1
    · rw [if_pos (by simpa using e), if_pos e, show w64 (w64 ((n : Int) - 1) - ((i % n : Nat) : Int)) = ((n - 1 - i % n : Nat) : Int) by { generalize i % n = x at *; rw [w64_of (x := (n : Int) - 1) (by omega), w64_of (by omega)]; omega }, J7 _ (by omega)]
    · rw [if_neg (by simpa using e), if_neg e, J7 _ a]

theorem forms_d (h3 : n * n = l.length) (hs : gameroomref_MagicSide_m l = some (n : Int)) : gameroomref_MagicForms_m l = some (insAll ((ixD n 8).map (img l)) []) := by
  have h4 := nn_le h1 h2
  have hlen : ∀ w, (insAll ((ixD n w).map (img l)) []).length ≤ w := by
    intro w
    induction w with
    | zero => simp [ixD, insAll]
    | succ w ih =>
      unfold ixD at ih ⊢
      rw [List.range_succ, List.map_append, List.map_append]
      unfold insAll at ih ⊢
      rw [List.foldl_append]
      exact Nat.le_trans insW_len (by omega)
  have hrow : ∀ w, ∀ x ∈ insAll ((ixD n w).map (img l)) [], x.length ≤ 4611686018427387904 := by
    intro w x hx
    rw [insAll_mem] at hx
    rcases hx with hx | hx
    · obtain ⟨y, hy, rfl⟩ := List.mem_map.1 hx
      unfold ixD at hy
      obtain ⟨z, _, rfl⟩ := List.mem_map.1 hy
      rw [img_length, List.length_map, List.length_range]
      omega
    · cases hx
  unfold gameroomref_MagicForms_m
  rw [hs, Option.bind_some, loop_from (s0 := (([] : List (List Int)), (0 : Int))) (r := insAll ((ixD n 8).map (img l)) []) (fun w => (insAll ((ixD n w).map (img l)) [], (w : Int))) 8 rfl (fun w hw => ?_) rfl, Option.bind_some]
  · rfl
  · unfold gameroomref_MagicForms_L1 gameroomref_MagicForms_J2
    dsimp only
    rw [if_pos (by rw [decide_eq_true_eq]; omega), asrt_pos (by unfold bigN; omega), Int.toNat_natCast, ← h3, way_d h1 h2 h3 hw, Option.bind_some]
    unfold gameroomref_MagicForms_K2 gameroomref_MagicForms_J4 gameroomref_MagicForms_J3
    dsimp only
    rw [put_p (by have := hlen w; omega) (hrow w), Option.bind_some, w64_of (x := (w : Int) + 1) (by omega)]
    have e : insAll ((ixD n (w + 1)).map (img l)) [] = insW (img l ((List.range (n * n)).map (qW n w))) (insAll ((ixD n w).map (img l)) []) := by
      unfold ixD
      rw [List.range_succ, List.map_append, List.map_append]
      unfold insAll
      rw [List.foldl_append]
      rfl
    rw [e]
    rfl

theorem forms_eq : compR (sortK cmpL ((ixP n 4).map (img l))) = insAll ((ixD n 8).map (img l)) [] := by
  obtain ⟨_, _, _, o4⟩ := ok_n h1 h2
  refine rows_same fun x => ?_
  rw [List.mem_map, List.mem_map]
  exact ⟨fun ⟨y, hy, e⟩ => ⟨y, (o4 y).1 hy, e⟩, fun ⟨y, hy, e⟩ => ⟨y, (o4 y).2 hy, e⟩⟩
end
end Go.Proofs.Ytoickcchcjehdaa
