/-
  Jumps of pegs, in plain words: all that a board has room for, in order; the same by pairs.
-/
import Derived.Test.YtjfloofoobllaaaLibSJ
import Derived.Test.YtjfloofoobllaaaNPS
import Derived.Test.YtjfloofoobllaaaLibY
import Derived.Test.YtjfloofoobllaaaLibE
import Derived.Test.YtjfloofoobllaaaLibT
namespace Go.GL
open Go Go.Sort Go.Proofs

def dirsJ : List (Int × Int) := [(1, 0), (-1, 0), (0, 1), (0, -1)]

section
variable {W H : Nat} {ok : Int → Int → Int → Bool}

/-- A jump from a place in a direction. -/
def stepJ (W H : Nat) (ok : Int → Int → Int → Bool) (a : Nat) (d : Int × Int) : List (Int × Int × Int) :=
  if (0 ≤ ((a % W : Nat) : Int) + 2 * d.1 ∧ ((a % W : Nat) : Int) + 2 * d.1 < W ∧ 0 ≤ ((a / W : Nat) : Int) + 2 * d.2 ∧ ((a / W : Nat) : Int) + 2 * d.2 < H) ∧
      ok a ((((a / W : Nat) : Int) + d.2) * W + ((a % W : Nat) : Int) + d.1) ((((a / W : Nat) : Int) + 2 * d.2) * W + (((a % W : Nat) : Int) + 2 * d.1)) = true then
    [((a : Int), (((a / W : Nat) : Int) + d.2) * W + ((a % W : Nat) : Int) + d.1, (((a / W : Nat) : Int) + 2 * d.2) * W + (((a % W : Nat) : Int) + 2 * d.1))] else []
def rawJ (W H : Nat) (ok : Int → Int → Int → Bool) : List (Int × Int × Int) := (List.range (W * H)).flatMap fun a => dirsJ.flatMap (stepJ W H ok a)

/-- As the document says which places a jump parts. -/
def geoJ (W : Nat) (a b : Nat) : Bool := decide ((((b % W : Nat) : Int) - (a % W : Nat)).natAbs + (((b / W : Nat) : Int) - (a / W : Nat)).natAbs = 2 ∧ (((b % W : Nat) : Int) - (a % W : Nat)) * (((b / W : Nat) : Int) - (a / W : Nat)) = 0)
def allP (W H : Nat) (ok : Int → Int → Int → Bool) : List (Int × Int) := (List.range (W * H)).flatMap fun a => ((List.range (W * H)).filter fun (b : Nat) => geoJ W a b && ok a (((a : Int) + b) / 2) b).map fun (b : Nat) => ((a : Int), (b : Int))

theorem mem_dirs {d : Int × Int} : d ∈ dirsJ ↔ (d.1 = 1 ∧ d.2 = 0) ∨ (d.1 = -1 ∧ d.2 = 0) ∨ (d.1 = 0 ∧ d.2 = 1) ∨ (d.1 = 0 ∧ d.2 = -1) := by
  obtain ⟨a, b⟩ := d
  simp [dirsJ]

theorem mid_step {w : Int} (x y d1 d2 : Int) (hd : (d1 = 1 ∧ d2 = 0) ∨ (d1 = -1 ∧ d2 = 0) ∨ (d1 = 0 ∧ d2 = 1) ∨ (d1 = 0 ∧ d2 = -1)) : (y + d2) * w + x + d1 = ((y * w + x) + ((y + 2 * d2) * w + (x + 2 * d1))) / 2 := by
  have e1 : (y + d2) * w = y * w + d2 * w := Int.add_mul ..
  have e2 : (y + 2 * d2) * w = y * w + 2 * (d2 * w) := by rw [Int.add_mul, Int.mul_assoc]
  rw [e1, e2]
  generalize y * w = t
  generalize d2 * w = u
  rcases hd with ⟨rfl, _⟩ | ⟨rfl, _⟩ | ⟨rfl, _⟩ | ⟨rfl, _⟩ <;> omega

theorem rawJ_mid : midOk (rawJ W H ok) := by
  intro j hj
  unfold rawJ at hj
  obtain ⟨a, ha, hj⟩ := List.mem_flatMap.1 hj
  obtain ⟨d, hd, hj⟩ := List.mem_flatMap.1 hj
  unfold stepJ at hj
  split at hj
  · rw [List.mem_singleton] at hj
    subst hj
    have h := mid_step (w := (W : Int)) ((a % W : Nat) : Int) ((a / W : Nat) : Int) d.1 d.2 (mem_dirs.1 hd)
    have ha2 : ((a / W : Nat) : Int) * W + ((a % W : Nat) : Int) = a := by
      have := Nat.div_add_mod a W
      rw [Nat.mul_comm] at this
      rw [← Int.natCast_mul, ← Int.natCast_add, this]
    rw [ha2] at h
    exact h
  · simp at hj

theorem coords {b : Nat} (x y : Nat) (hx : x < W) (hb : b = y * W + x) : b % W = x ∧ b / W = y := by
  have hW : 0 < W := by omega
  subst hb
  constructor
  · rw [Nat.mul_comm, Nat.mul_add_mod, Nat.mod_eq_of_lt hx]
  · rw [Nat.mul_comm, Nat.mul_add_div hW, Nat.div_eq_of_lt hx, Nat.add_zero]

theorem geoJ_iff {a b : Nat} : geoJ W a b = true ↔ ∃ d ∈ dirsJ, ((b % W : Nat) : Int) = (a % W : Nat) + 2 * d.1 ∧ ((b / W : Nat) : Int) = (a / W : Nat) + 2 * d.2 := by
  unfold geoJ
  rw [decide_eq_true_eq]
  generalize ((b % W : Nat) : Int) = x'
  generalize ((b / W : Nat) : Int) = y'
  generalize ((a % W : Nat) : Int) = x
  generalize ((a / W : Nat) : Int) = y
  constructor
  · rintro ⟨h1, h2⟩
    rcases Int.mul_eq_zero.1 h2 with h | h
    · have : y' - y = 2 ∨ y' - y = -2 := by omega
      rcases this with h3 | h3
      · exact ⟨(0, 1), mem_dirs.2 (by simp), by simp only; omega, by simp only; omega⟩
      · exact ⟨(0, -1), mem_dirs.2 (by simp), by simp only; omega, by simp only; omega⟩
    · have : x' - x = 2 ∨ x' - x = -2 := by omega
      rcases this with h3 | h3
      · exact ⟨(1, 0), mem_dirs.2 (by simp), by simp only; omega, by simp only; omega⟩
      · exact ⟨(-1, 0), mem_dirs.2 (by simp), by simp only; omega, by simp only; omega⟩
  · rintro ⟨d, hd, h1, h2⟩
    rcases mem_dirs.1 hd with ⟨e1, e2⟩ | ⟨e1, e2⟩ | ⟨e1, e2⟩ | ⟨e1, e2⟩ <;> rw [e1] at h1 <;> rw [e2] at h2
    · rw [show y' - y = 0 by omega]; simp; omega
    · rw [show y' - y = 0 by omega]; simp; omega
    · rw [show x' - x = 0 by omega]; simp; omega
    · rw [show x' - x = 0 by omega]; simp; omega

/-- The jumps by pairs. -/
def rawP (W H : Nat) (ok : Int → Int → Int → Bool) : List (Int × Int) := (rawJ W H ok).map fun x => (x.1, x.2.2)

theorem rawP_mem {p : Int × Int} : p ∈ rawP W H ok ↔ p ∈ allP W H ok := by
  unfold rawP rawJ allP
  rw [List.mem_map]
  simp only [List.mem_flatMap, List.mem_range, List.mem_map, List.mem_filter, Bool.and_eq_true]
  constructor
  · rintro ⟨j, ⟨a, ha, d, hd, hj⟩, rfl⟩
    unfold stepJ at hj
    split at hj
    · rename_i hc
      rw [List.mem_singleton] at hj
      subst hj
      obtain ⟨⟨c1, c2, c3, c4⟩, hok⟩ := hc
      obtain ⟨x', hx'⟩ : ∃ x' : Nat, ((a % W : Nat) : Int) + 2 * d.1 = x' := ⟨_, (Int.toNat_of_nonneg c1).symm⟩
      obtain ⟨y', hy'⟩ : ∃ y' : Nat, ((a / W : Nat) : Int) + 2 * d.2 = y' := ⟨_, (Int.toNat_of_nonneg c3).symm⟩
      rw [hx'] at c2
      rw [hy'] at c4
      obtain ⟨e1, e2⟩ := coords (W := W) (b := y' * W + x') x' y' (by omega) rfl
      have hm := mid_step (w := (W : Int)) ((a % W : Nat) : Int) ((a / W : Nat) : Int) d.1 d.2 (mem_dirs.1 hd)
      have ha2 : ((a / W : Nat) : Int) * W + ((a % W : Nat) : Int) = a := by
        have := Nat.div_add_mod a W
        rw [Nat.mul_comm] at this
        rw [← Int.natCast_mul, ← Int.natCast_add, this]
      rw [ha2] at hm
      rw [hm, hx', hy'] at hok
      refine ⟨a, ha, y' * W + x', ⟨?_, geoJ_iff.2 ⟨d, hd, by rw [e1, hx'], by rw [e2, hy']⟩, ?_⟩, ?_⟩
      · have h1 : (y' + 1) * W ≤ H * W := Nat.mul_le_mul_right _ (by omega)
        rw [Nat.add_mul, Nat.one_mul] at h1
        rw [Nat.mul_comm W H]
        omega
      · rw [Int.natCast_add, Int.natCast_mul]; exact hok
      · rw [hx', hy', Int.natCast_add, Int.natCast_mul]
    · simp at hj
  · rintro ⟨a, ha, b, ⟨hb, hg, hok⟩, rfl⟩
    obtain ⟨d, hd, h1, h2⟩ := geoJ_iff.1 hg
    have hW : 0 < W := by
      rcases Nat.eq_zero_or_pos W with h | h
      · subst h; simp at ha
      · exact h
    have hx : b % W < W := Nat.mod_lt _ hW
    have hy : b / W < H := Nat.div_lt_of_lt_mul hb
    have hm := mid_step (w := (W : Int)) ((a % W : Nat) : Int) ((a / W : Nat) : Int) d.1 d.2 (mem_dirs.1 hd)
    have ha2 : ((a / W : Nat) : Int) * W + ((a % W : Nat) : Int) = a := by
      have := Nat.div_add_mod a W
      rw [Nat.mul_comm] at this
      rw [← Int.natCast_mul, ← Int.natCast_add, this]
    have hb2 : ((b / W : Nat) : Int) * W + ((b % W : Nat) : Int) = b := by
      have := Nat.div_add_mod b W
      rw [Nat.mul_comm] at this
      rw [← Int.natCast_mul, ← Int.natCast_add, this]
    rw [ha2, ← h1, ← h2, hb2] at hm
    refine ⟨((a : Int), (((a / W : Nat) : Int) + d.2) * W + ((a % W : Nat) : Int) + d.1, (((a / W : Nat) : Int) + 2 * d.2) * W + (((a % W : Nat) : Int) + 2 * d.1)), ⟨a, ha, d, hd, ?_⟩, ?_⟩
    · unfold stepJ
      rw [if_pos]
      · simp
      · refine ⟨⟨by rw [← h1]; exact Int.natCast_nonneg _, by rw [← h1]; exact Int.ofNat_lt.2 hx, by rw [← h2]; exact Int.natCast_nonneg _, by rw [← h2]; exact Int.ofNat_lt.2 hy⟩, ?_⟩
        rw [hm, ← h1, ← h2, hb2]
        exact hok
    · simp only
      rw [← h1, ← h2, hb2]

theorem allP_lt : (allP W H ok).Pairwise (fun x y => ltOf cfP x y = true) := by
  unfold allP
  rw [List.pairwise_flatMap]
  refine ⟨fun a ha => ?_, ?_⟩
  · rw [List.pairwise_map]
    refine (List.pairwise_lt_range.filter _).imp fun {x y} h => (cfP_lt _ _).2 ?_
    right
    exact ⟨rfl, Int.ofNat_lt.2 h⟩
  · refine List.pairwise_lt_range.imp fun {x y} h => ?_
    intro p hp q hq
    obtain ⟨b, _, rfl⟩ := List.mem_map.1 hp
    obtain ⟨b', _, rfl⟩ := List.mem_map.1 hq
    refine (cfP_lt _ _).2 (Or.inl ?_)
    show (x : Int) < (y : Int)
    omega

theorem stepJ_fst {a : Nat} {d : Int × Int} {j : Int × Int × Int} (h : j ∈ stepJ W H ok a d) : j.1 = a ∧ j.2.2 = (((a / W : Nat) : Int) + 2 * d.2) * W + (((a % W : Nat) : Int) + 2 * d.1) ∧ 0 ≤ ((a % W : Nat) : Int) + 2 * d.1 ∧ ((a % W : Nat) : Int) + 2 * d.1 < W ∧ 0 ≤ ((a / W : Nat) : Int) + 2 * d.2 := by
  unfold stepJ at h
  split at h
  · rename_i hc
    rw [List.mem_singleton] at h
    subst h
    exact ⟨rfl, rfl, hc.1.1, hc.1.2.1, hc.1.2.2.1⟩
  · simp at h

theorem rawP_nodup : (rawP W H ok).Nodup := by
  unfold rawP rawJ
  rw [List.map_flatMap]
  unfold List.Nodup
  rw [List.pairwise_flatMap]
  refine ⟨fun a ha => ?_, ?_⟩
  · rw [List.map_flatMap, List.pairwise_flatMap]
    refine ⟨fun d hd => ?_, ?_⟩
    · unfold stepJ
      split <;> simp
    · have hdn : dirsJ.Nodup := by decide
      refine hdn.imp_of_mem fun {d1 d2} h1 h2 hne => ?_
      intro p hp q hq
      obtain ⟨j1, hj1, rfl⟩ := List.mem_map.1 hp
      obtain ⟨j2, hj2, rfl⟩ := List.mem_map.1 hq
      obtain ⟨_, u1, u2, u3, u4⟩ := stepJ_fst hj1
      obtain ⟨_, v1, v2, v3, v4⟩ := stepJ_fst hj2
      intro he
      apply hne
      have he2 : j1.2.2 = j2.2.2 := (Prod.mk.inj he).2
      rw [u1, v1] at he2
      obtain ⟨x1, hx1⟩ : ∃ x' : Nat, ((a % W : Nat) : Int) + 2 * d1.1 = x' := ⟨_, (Int.toNat_of_nonneg u2).symm⟩
      obtain ⟨y1, hy1⟩ : ∃ y' : Nat, ((a / W : Nat) : Int) + 2 * d1.2 = y' := ⟨_, (Int.toNat_of_nonneg u4).symm⟩
      obtain ⟨x2, hx2⟩ : ∃ x' : Nat, ((a % W : Nat) : Int) + 2 * d2.1 = x' := ⟨_, (Int.toNat_of_nonneg v2).symm⟩
      obtain ⟨y2, hy2⟩ : ∃ y' : Nat, ((a / W : Nat) : Int) + 2 * d2.2 = y' := ⟨_, (Int.toNat_of_nonneg v4).symm⟩
      rw [hx1, hy1, hx2, hy2, ← Int.natCast_mul, ← Int.natCast_mul, ← Int.natCast_add, ← Int.natCast_add] at he2
      have he3 : y1 * W + x1 = y2 * W + x2 := Int.ofNat_inj.1 he2
      rw [hx1] at u3
      rw [hx2] at v3
      obtain ⟨c1, c2⟩ := coords (W := W) (b := y1 * W + x1) x1 y1 (by omega) rfl
      obtain ⟨c3, c4⟩ := coords (W := W) (b := y1 * W + x1) x2 y2 (by omega) he3
      have ex : x1 = x2 := by rw [← c1, c3]
      have ey : y1 = y2 := by rw [← c2, c4]
      refine Prod.ext ?_ ?_ <;> omega
  · refine List.nodup_range.imp fun {a a'} hne => ?_
    intro p hp q hq he
    rw [List.map_flatMap] at hp hq
    obtain ⟨d1, _, hp⟩ := List.mem_flatMap.1 hp
    obtain ⟨d2, _, hq⟩ := List.mem_flatMap.1 hq
    obtain ⟨j1, hj1, rfl⟩ := List.mem_map.1 hp
    obtain ⟨j2, hj2, rfl⟩ := List.mem_map.1 hq
    have h1 := (stepJ_fst hj1).1
    have h2 := (stepJ_fst hj2).1
    have h3 : j1.1 = j2.1 := congrArg (fun z : Int × Int => z.1) he
    omega

/-- All jumps, sorted: by pairs in order, each with its middle. -/
theorem sorted_raw : sortK cfJ (rawJ W H ok) = (allP W H ok).map midJ := by
  have h := midOk_map (rawJ_mid (W := W) (H := H) (ok := ok))
  rw [← h, sortJ_map]
  congr 1
  exact sortK_eq cfP_swo cfP_tot rawP_nodup allP_lt fun x => rawP_mem
end
end Go.GL
namespace Go.Proofs.Ytjfloofoobllaaa
open Go Go.GL

def offG (x : Int) : Bool := decide (x < 0) || decide ((2 : Int) < x)
theorem offG_in (x : Int) : offG x = !(decide (0 ≤ x) && decide (x ≤ 2)) := by
  unfold offG
  by_cases h1 : 0 ≤ x <;> by_cases h2 : x ≤ 2 <;> simp [h1, h2, Int.not_lt.2] <;> omega

theorem indexFunc_g {s : List Int} (hs : s.length ≤ 17592186044416) : slices_IndexFunc_m s = some (fidx offG s) := by
  unfold slices_IndexFunc_m
  rw [search_loop (l := s) offG (fun i => Fl.ret (i : Int)) (Fl.go ()) ?_ ?_ ?_]
  · unfold fidx
    cases s.findIdx? offG <;> rfl
  · intro i x hx hp
    have hb := idx_bd hx
    simp only [slices_IndexFunc_L1, slices_IndexFunc_J2]
    rw [if_pos (by simpa using hb.2), asrt_pos hb, geti_some hx]
    simp only [rows_May_1_m, Option.bind_some]
    exact if_pos hp
  · intro i x hx hp
    have hb := idx_bd hx
    simp only [slices_IndexFunc_L1, slices_IndexFunc_J2]
    rw [if_pos (by simpa using hb.2), asrt_pos hb, geti_some hx]
    simp only [rows_May_1_m, Option.bind_some]
    rw [if_neg (by unfold offG at hp; rw [hp]; simp)]
    simp only [slices_IndexFunc_J3]
    rw [w64_succ (by omega)]
  · simp only [slices_IndexFunc_L1]
    rw [if_neg (by simp)]

def dimG (W H : Int) (c : List Int) : Prop := 1 ≤ W ∧ W ≤ 10 ∧ 1 ≤ H ∧ H ≤ 10 ∧ (c.length : Int) = W * H
instance (W H : Int) (c : List Int) : Decidable (dimG W H c) := by unfold dimG; infer_instance
def okG (W H : Int) (c : List Int) : Bool := decide (dimG W H c) && !c.any offG

theorem dim_b (W H : Int) (c : List Int) : (((((decide ((1 : Int) ≤ W)) && (decide (W ≤ 10))) && (decide ((1 : Int) ≤ H))) && (decide (H ≤ 10))) && ((c.length : Int) == (w64 (W * H)))) = decide (dimG W H c) := by
  unfold dimG
  by_cases h : 1 ≤ W ∧ W ≤ 10 ∧ 1 ≤ H ∧ H ≤ 10
  · have hm := mul_bd' (b := W) (W := H) (by omega) (by omega)
    rw [w64_of (by omega), Bool.eq_iff_iff]
    simp only [Bool.and_eq_true, decide_eq_true_eq, beq_iff_eq, and_assoc]
    exact decide_eq_true_iff.symm
  · rw [decide_eq_false (p := 1 ≤ W ∧ W ≤ 10 ∧ 1 ≤ H ∧ H ≤ 10 ∧ (c.length : Int) = W * H) (fun h2 => h ⟨h2.1, h2.2.1, h2.2.2.1, h2.2.2.2.1⟩)]
    rw [Bool.and_eq_false_iff]
    left
    simp only [← Bool.decide_and, decide_eq_false_iff_not]
    omega

theorem may_p (W H : Int) {c : List Int} (hs : c.length ≤ 17592186044416) : rows_May_m W H c = some (okG W H c) := by
  unfold rows_May_m
  rw [dim_b]
  unfold okG
  by_cases h : dimG W H c
  · rw [decide_eq_true h, if_pos rfl]
    unfold slices_ContainsFunc_m
    rw [indexFunc_g hs]
    simp only [Option.bind_some, Bool.true_and]
    congr 2
    rw [Bool.eq_iff_iff, decide_eq_true_eq]
    exact fidx_neg offG c
  · rw [decide_eq_false h, if_neg (by decide)]
    rfl

theorem gridMay_eq (W H : Int) {c : List Int} (hs : c.length ≤ 17592186044416) : gameroomref_GridMay_m W H c = some (okG W H c) := by
  unfold gameroomref_GridMay_m gameroomref_within_m okG
  have hd := dim_b W H c
  by_cases h : dimG W H c
  · have h' := h
    obtain ⟨h1, h2, h3, h4, h5⟩ := h'
    have hm := mul_bd' (b := W) (W := H) (by omega) (by omega)
    rw [decide_eq_true h1, decide_eq_true h2, decide_eq_true h3, decide_eq_true h4, decide_eq_true h, w64_of (x := W * H) (by omega), ← h5]
    simp only [Option.bind_some, Bool.and_self, Bool.not_true, Bool.not_false, if_true, Bool.or_false, bne_self_eq_false, Bool.false_eq_true, if_false, Bool.true_and]
    unfold gameroomref_GridMay_J1
    rw [search_loop (l := c) offG (fun _ => Fl.ret false) (Fl.go ()) ?_ ?_ ?_]
    · have hn := fidx_neg offG c
      unfold fidx at hn
      cases hf : c.findIdx? offG with
      | none =>
        rw [hf] at hn
        have : c.any offG = false := by
          rw [Bool.eq_false_iff]
          intro h; have := hn.2 h; simp at this
        rw [this]; rfl
      | some i =>
        rw [hf] at hn
        have : c.any offG = true := hn.1 (by simp)
        rw [this]; rfl
    · intro i x hx hp
      have hb := idx_bd hx
      simp only [gameroomref_GridMay_L1, gameroomref_GridMay_J3]
      rw [if_pos (by simpa using hb.2), asrt_pos hb, geti_some hx]
      simp only [gameroomref_within_m, Option.bind_some]
      rw [if_pos (by rw [← offG_in]; exact hp)]
    · intro i x hx hp
      have hb := idx_bd hx
      simp only [gameroomref_GridMay_L1, gameroomref_GridMay_J3]
      rw [if_pos (by simpa using hb.2), asrt_pos hb, geti_some hx]
      simp only [gameroomref_within_m, Option.bind_some]
      rw [if_neg (by rw [← offG_in, hp]; simp)]
      simp only [gameroomref_GridMay_J4]
      rw [w64_succ (by omega)]
    · simp only [gameroomref_GridMay_L1]
      rw [if_neg (by simp)]
  · rw [decide_eq_false h] at hd ⊢
    simp only [Option.bind_some, Bool.not_not, Bool.false_and]
    by_cases q1 : (decide ((1 : Int) ≤ W) && decide (W ≤ 10)) = true
    · rw [q1] at hd ⊢
      simp only [if_true, Option.bind_some, Bool.not_true, Bool.false_or]
      rw [if_pos]
      rw [Bool.true_and] at hd
      rw [Bool.or_eq_true]
      by_cases q2 : (decide ((1 : Int) ≤ H) && decide (H ≤ 10)) = true
      · right
        rw [q2, Bool.true_and] at hd
        simpa using hd
      · left
        rw [Bool.not_eq_true] at q2
        rw [q2]; rfl
    · rw [Bool.not_eq_true] at q1
      rw [q1]
      simp


theorem okG_dim {W H : Int} {c : List Int} (h : okG W H c = true) : dimG W H c := by
  unfold okG at h
  rw [Bool.and_eq_true] at h
  exact of_decide_eq_true h.1
theorem okG_dm {W H : Int} {c : List Int} (h : okG W H c = true) : Dm W H c := by
  obtain ⟨h1, h2, h3, h4, h5⟩ := okG_dim h
  exact ⟨⟨h1, h2⟩, ⟨h3, h4⟩, h5⟩
theorem okG_in {W H : Int} {c : List Int} (h : okG W H c = true) (i : Nat) (hi : i < c.length) : 0 ≤ geti c i ∧ geti c i ≤ 2 := by
  unfold okG at h
  rw [Bool.and_eq_true, Bool.not_eq_true'] at h
  have hx := List.any_eq_false.1 h.2 (geti c i) (List.mem_of_getElem? (get_geti hi))
  unfold offG at hx
  simp only [Bool.or_eq_true, decide_eq_true_eq, not_or] at hx
  omega

end Go.Proofs.Ytjfloofoobllaaa
namespace Go.Proofs.Ytjfloofoobllaaa
open Go Go.GL

theorem mul_bd {a b : Int} (h1 : -20 ≤ a ∧ a ≤ 20) (h2 : 0 ≤ b ∧ b ≤ 20) : -400 ≤ a * b ∧ a * b ≤ 400 := by
  have e1 : a * b ≤ 20 * b := Int.mul_le_mul_of_nonneg_right h1.2 h2.1
  have e2 : -20 * b ≤ a * b := Int.mul_le_mul_of_nonneg_right h1.1 h2.1
  omega

/-- No wall among three places. -/
def okJ (c : List Int) (a m b : Int) : Bool := ((geti c a != 2) && (geti c m != 2)) && (geti c b != 2)

section
variable {W H : Nat} {c : List Int}

theorem tab_dir {z : Nat} (hz : z < 4) : ∃ d1 d2 : Int, dirsJ.getD z (0, 0) = (d1, d2) ∧ geti ([1, 0, (-1), 0, 0, 1, 0, (-1)] : List Int) ((z : Int) * 2) = d1 ∧ geti ([1, 0, (-1), 0, 0, 1, 0, (-1)] : List Int) ((z : Int) * 2 + 1) = d2 ∧ ((d1 = 1 ∧ d2 = 0) ∨ (d1 = -1 ∧ d2 = 0) ∨ (d1 = 0 ∧ d2 = 1) ∨ (d1 = 0 ∧ d2 = -1)) := by
  have : z = 0 ∨ z = 1 ∨ z = 2 ∨ z = 3 := by omega
  rcases this with rfl | rfl | rfl | rfl
  · exact ⟨_, _, rfl, rfl, rfl, by simp⟩
  · exact ⟨_, _, rfl, rfl, rfl, by simp⟩
  · exact ⟨_, _, rfl, rfl, rfl, by simp⟩
  · exact ⟨_, _, rfl, rfl, rfl, by simp⟩

theorem jump_step (B : Dm W H c) {a : Nat} (ha : a < W * H) {z : Nat} (hz : z < 4) {l : List (Int × Int × Int)} (hl : l.length ≤ 1000) :
    pegs_jumps_L2 W H c a (l, (z : Int)) = some (.next (l ++ stepJ W H (okJ c) a (dirsJ.getD z (0, 0)), ((z + 1 : Nat) : Int))) := by
  obtain ⟨d1, d2, e0, e1, e2, hd⟩ := tab_dir hz
  rw [e0]
  have hW := B.w
  have hH := B.h
  have hlen : c.length = W * H := by have := B.len; rw [← Int.natCast_mul] at this; exact Int.ofNat_inj.1 this
  have hxl : a % W < W := Nat.mod_lt _ (by omega)
  have hyl : a / W < H := Nat.div_lt_of_lt_mul ha
  simp only [pegs_jumps_L2]
  rw [if_pos (decide_eq_true (by omega))]
  unfold pegs_jumps_J4 pegs_jumps_J6 pegs_jumps_J5 stepJ okJ
  rw [asrt_pos (by omega), e1, e2, show Int.tmod (a : Int) (W : Int) = ((a % W : Nat) : Int) from rfl, show Int.tdiv (a : Int) (W : Int) = ((a / W : Nat) : Int) from rfl]
  simp only
  generalize hx : ((a % W : Nat) : Int) = x
  generalize hy : ((a / W : Nat) : Int) = y
  have hx0 : 0 ≤ x ∧ x < W := by rw [← hx]; exact ⟨Int.natCast_nonneg _, Int.ofNat_lt.2 hxl⟩
  have hy0 : 0 ≤ y ∧ y < H := by rw [← hy]; exact ⟨Int.natCast_nonneg _, Int.ofNat_lt.2 hyl⟩
  have hd1 : -1 ≤ d1 ∧ d1 ≤ 1 := by omega
  have hd2 : -1 ≤ d2 ∧ d2 ≤ 1 := by omega
  have m1 := mul_bd (a := y + d2) (b := (W : Int)) (by omega) (by omega)
  have m2 := mul_bd (a := y + 2 * d2) (b := (W : Int)) (by omega) (by omega)
  rw [w64_of (x := y) (by omega), w64_of (x := 2 * d1) (by omega), w64_of (x := 2 * d2) (by omega), w64_of (x := x + 2 * d1) (by omega), w64_of (x := y + 2 * d2) (by omega), w64_of (x := y + d2) (by omega), w64_of (x := (y + d2) * W) (by omega), w64_of (x := (y + 2 * d2) * W) (by omega), w64_of (x := (y + d2) * W + x) (by omega), w64_of (x := (y + d2) * W + x + d1) (by omega), w64_of (x := (y + 2 * d2) * W + (x + 2 * d1)) (by omega), w64_succ (by omega)]
  by_cases hin : 0 ≤ x + 2 * d1 ∧ x + 2 * d1 < W ∧ 0 ≤ y + 2 * d2 ∧ y + 2 * d2 < H
  · rw [if_neg (by simp only [Bool.or_eq_true, decide_eq_true_eq]; omega)]
    have i1 := B.idx (x := x + d1) (y := y + d2) (by omega) (by omega)
    have i2 := B.idx (x := x + 2 * d1) (y := y + 2 * d2) (by omega) (by omega)
    rw [asrt_pos (by omega), asrt_pos (fun _ => by omega), asrt_pos (fun _ => by omega)]
    by_cases hok : ((geti c a != 2) && (geti c ((y + d2) * W + x + d1) != 2) && (geti c ((y + 2 * d2) * W + (x + 2 * d1)) != 2)) = true
    · rw [if_pos hok, if_pos ⟨hin, hok⟩, asrt_pos (by unfold bigT; omega)]; rfl
    · rw [if_neg hok, if_neg (fun q => hok q.2), List.append_nil]; rfl
  · rw [if_pos (by simp only [Bool.or_eq_true, decide_eq_true_eq]; omega), if_neg (fun q => hin q.1), List.append_nil]; rfl

theorem stepJ_len (W H : Nat) (ok : Int → Int → Int → Bool) (a : Nat) (d : Int × Int) : (stepJ W H ok a d).length ≤ 1 := by
  unfold stepJ
  split <;> simp

theorem jump_dirs (B : Dm W H c) {a : Nat} (ha : a < W * H) {l : List (Int × Int × Int)} (hl : l.length ≤ 900) :
    loop (pegs_jumps_L2 W H c a) (l, 0) = some (l ++ dirsJ.flatMap (stepJ W H (okJ c) a)) := by
  have hs : ∀ d, (stepJ W H (okJ c) a d).length ≤ 1 := stepJ_len W H (okJ c) a
  have s0 := jump_step B ha (z := 0) (by omega) (l := l) (by omega)
  have s1 := jump_step B ha (z := 1) (by omega) (l := l ++ stepJ W H (okJ c) a (1, 0)) (by rw [List.length_append]; have := hs (1, 0); omega)
  have s2 := jump_step B ha (z := 2) (by omega) (l := l ++ stepJ W H (okJ c) a (1, 0) ++ stepJ W H (okJ c) a (-1, 0)) (by rw [List.length_append, List.length_append]; have := hs (1, 0); have := hs (-1, 0); omega)
  have s3 := jump_step B ha (z := 3) (by omega) (l := l ++ stepJ W H (okJ c) a (1, 0) ++ stepJ W H (okJ c) a (-1, 0) ++ stepJ W H (okJ c) a (0, 1)) (by rw [List.length_append, List.length_append, List.length_append]; have := hs (1, 0); have := hs (-1, 0); have := hs (0, 1); omega)
  have s4 : pegs_jumps_L2 W H c a (l ++ stepJ W H (okJ c) a (1, 0) ++ stepJ W H (okJ c) a (-1, 0) ++ stepJ W H (okJ c) a (0, 1) ++ stepJ W H (okJ c) a (0, -1), ((3 + 1 : Nat) : Int)) = some (.done (l ++ stepJ W H (okJ c) a (1, 0) ++ stepJ W H (okJ c) a (-1, 0) ++ stepJ W H (okJ c) a (0, 1) ++ stepJ W H (okJ c) a (0, -1))) := by
    simp only [pegs_jumps_L2]
    exact if_neg (by simp)
  have := loop_next' s0 (loop_next' s1 (loop_next' s2 (loop_next' s3 (loop_done s4))))
  rw [show ((0 : Nat) : Int) = 0 from rfl] at this
  rw [this]
  simp [dirsJ]

theorem dirs_len (W H : Nat) (ok : Int → Int → Int → Bool) (a : Nat) : (dirsJ.flatMap (stepJ W H ok a)).length ≤ 4 := by
  have h1 := stepJ_len W H ok a (1, 0)
  have h2 := stepJ_len W H ok a (-1, 0)
  have h3 := stepJ_len W H ok a (0, 1)
  have h4 := stepJ_len W H ok a (0, -1)
  simp only [dirsJ, List.flatMap_cons, List.flatMap_nil, List.length_append, List.length_nil]
  omega

theorem part_len (W H : Nat) (ok : Int → Int → Int → Bool) (n : Nat) : ((List.range n).flatMap fun a => dirsJ.flatMap (stepJ W H ok a)).length ≤ 4 * n := by
  induction n with
  | zero => simp
  | succ n ih =>
    rw [List.range_succ, List.flatMap_append, List.length_append, List.flatMap_cons, List.flatMap_nil, List.append_nil]
    have := dirs_len W H ok n
    omega

/-- All jumps, in order, each with its middle. -/
def allJ (W H : Nat) (c : List Int) : List (Int × Int × Int) := (allP W H (okJ c)).map midJ

theorem jumps_p (B : Dm W H c) : pegs_jumps_m W H c = some (allJ W H c) := by
  have hW := B.w
  have hH := B.h
  have hlen : c.length = W * H := by have := B.len; rw [← Int.natCast_mul] at this; exact Int.ofNat_inj.1 this
  have hn : W * H ≤ 10 * 10 := Nat.mul_le_mul (by omega) (by omega)
  have hl : loop (pegs_jumps_L1 W H c) (([] : List (Int × Int × Int)), 0) = some (rawJ W H (okJ c)) := by
    refine loop_from (fun n : Nat => ((List.range n).flatMap fun a => dirsJ.flatMap (stepJ W H (okJ c) a), (n : Int))) (W * H) rfl (fun n hn' => ?_) ?_
    · have hp := part_len W H (okJ c) n
      simp only [pegs_jumps_L1]
      rw [if_pos (decide_eq_true (by omega))]
      unfold pegs_jumps_J2
      rw [asrt_pos (by omega), asrt_pos (by omega), jump_dirs B hn' (by omega), Option.bind_some]
      simp only [pegs_jumps_K2, pegs_jumps_J3]
      rw [w64_succ (by omega), List.range_succ, List.flatMap_append, List.flatMap_cons, List.flatMap_nil, List.append_nil]; rfl
    · simp only [pegs_jumps_L1]
      exact if_neg (by rw [hlen]; simp)
  unfold pegs_jumps_m
  rw [hl, Option.bind_some]
  simp only [pegs_jumps_K1]
  unfold pegs_jumps_J1 pegs_jump_2_m
  have hp : (rawJ W H (okJ c)).length ≤ 4 * (W * H) := part_len W H (okJ c) (W * H)
  rw [asrt_pos rawJ_mid, asrt_pos (by unfold bigN; omega), sorted_raw]
  rfl
end
end Go.Proofs.Ytjfloofoobllaaa
namespace Go.Proofs.Ytjfloofoobllaaa
open Go Go.GL

theorem mul_bd2 {a b : Int} (h1 : -20 ≤ a ∧ a ≤ 20) (h2 : -20 ≤ b ∧ b ≤ 20) : -400 ≤ a * b ∧ a * b ≤ 400 := by
  by_cases hb : 0 ≤ b
  · exact mul_bd h1 ⟨hb, h2.2⟩
  · have := mul_bd (b := -b) h1 (by omega)
    rw [Int.mul_neg] at this
    omega

theorem size_p {x : Int} (h : -100 ≤ x ∧ x ≤ 100) : gameroomref_size_m x = some ((x.natAbs : Nat) : Int) := by
  unfold gameroomref_size_m gameroomref_size_J1
  by_cases hx : x < 0
  · rw [if_pos (decide_eq_true hx), w64_of (by omega)]
    congr 1; omega
  · rw [if_neg (by rw [decide_eq_true_eq]; exact hx)]
    congr 1; omega

/-- Can a jump be made, as places stand? -/
def canC (c : List Int) (j : Int × Int × Int) : Bool := ((geti c j.1 == 1) && (geti c j.2.1 == 1)) && (geti c j.2.2 == 0)
def canB (W : Nat) (c : List Int) (a b : Nat) : Bool := geoJ W a b && canC c (midJ ((a : Int), (b : Int)))

section
variable {W H : Nat} {c : List Int}

theorem len_nat (B : Dm W H c) : c.length = W * H := by have := B.len; rw [← Int.natCast_mul] at this; exact Int.ofNat_inj.1 this
theorem len_le (B : Dm W H c) : c.length ≤ 100 := by
  have := B.w
  have := B.h
  rw [len_nat B]
  exact Nat.le_trans (Nat.mul_le_mul (show W ≤ 10 by omega) (show H ≤ 10 by omega)) (by decide)

theorem mid_in (B : Dm W H c) {a b : Nat} (ha : a < c.length) (hb : b < c.length) : 0 ≤ ((a : Int) + b) / 2 ∧ ((a : Int) + b) / 2 < c.length := by omega

theorem jumpCan_in (B : Dm W H c) {a b : Nat} (ha : a < c.length) (hb : b < c.length) : gameroomref_JumpCan_m W H c a b = some (canB W c a b) := by
  have hW := B.w
  have hH := B.h
  have hl := len_le B
  have hmm := mid_in B ha hb
  have hax : a % W < W := Nat.mod_lt _ (by omega)
  have hbx : b % W < W := Nat.mod_lt _ (by omega)
  have hay : a / W ≤ a := Nat.div_le_self _ _
  have hby : b / W ≤ b := Nat.div_le_self _ _
  have hayH : a / W < H := Nat.div_lt_of_lt_mul (by rw [← len_nat B]; exact ha)
  have hbyH : b / W < H := Nat.div_lt_of_lt_mul (by rw [← len_nat B]; exact hb)
  unfold gameroomref_JumpCan_m gameroomref_within_m gameroomref_JumpCan_J1
  rw [w64_of (x := (c.length : Int) - 1) (by omega), decide_eq_true (show (0 : Int) ≤ a by omega), decide_eq_true (show (a : Int) ≤ (c.length : Int) - 1 by omega), decide_eq_true (show (0 : Int) ≤ b by omega), decide_eq_true (show (b : Int) ≤ (c.length : Int) - 1 by omega)]
  simp only [Bool.and_self, Option.bind_some, Bool.not_true, Bool.not_false, if_true, Bool.or_self, Bool.false_eq_true, if_false]
  rw [asrt_pos (by omega), asrt_pos (by omega), asrt_pos (by omega), asrt_pos (by omega), show Int.tmod (a : Int) (W : Int) = ((a % W : Nat) : Int) from rfl, show Int.tdiv (a : Int) (W : Int) = ((a / W : Nat) : Int) from rfl, show Int.tmod (b : Int) (W : Int) = ((b % W : Nat) : Int) from rfl, show Int.tdiv (b : Int) (W : Int) = ((b / W : Nat) : Int) from rfl]
  unfold canB geoJ canC midJ
  simp only
  generalize hx : ((a % W : Nat) : Int) = x
  generalize hy : ((a / W : Nat) : Int) = y
  generalize hx' : ((b % W : Nat) : Int) = x'
  generalize hy' : ((b / W : Nat) : Int) = y'
  have hx0 : 0 ≤ x ∧ x < W := by rw [← hx]; exact ⟨Int.natCast_nonneg _, Int.ofNat_lt.2 hax⟩
  have hx1 : 0 ≤ x' ∧ x' < W := by rw [← hx']; exact ⟨Int.natCast_nonneg _, Int.ofNat_lt.2 hbx⟩
  have hy0 : 0 ≤ y ∧ y < H := by rw [← hy]; exact ⟨Int.natCast_nonneg _, Int.ofNat_lt.2 hayH⟩
  have hy1 : 0 ≤ y' ∧ y' < H := by rw [← hy']; exact ⟨Int.natCast_nonneg _, Int.ofNat_lt.2 hbyH⟩
  clear hx hy hx' hy' hax hbx hay hby hayH hbyH
  have m1 := mul_bd2 (a := x' - x) (b := y' - y) (by omega) (by omega)
  rw [w64_of (x := y) (by omega), w64_of (x := y') (by omega), w64_of (x := x' - x) (by omega), w64_of (x := y' - y) (by omega), w64_of (x := (x' - x) * (y' - y)) (by omega), size_p (by omega), size_p (by omega)]
  simp only [Option.bind_some]
  have hm : w64 (Int.tdiv (w64 ((a : Int) + b)) 2) = ((a : Int) + b) / 2 := by
    rw [w64_of (x := (a : Int) + b) (by omega), Int.tdiv_eq_ediv_of_nonneg (by omega), w64_of (by omega)]
  rw [hm, asrt_pos (fun _ => by omega), asrt_pos (fun _ => hmm), asrt_pos (fun _ => by omega), w64_of (by omega)]
  congr 1
  have hg : (((((x' - x).natAbs : Nat) : Int) + (((y' - y).natAbs : Nat) : Int) == 2) && ((x' - x) * (y' - y) == 0)) = decide ((x' - x).natAbs + (y' - y).natAbs = 2 ∧ (x' - x) * (y' - y) = 0) := by
    rw [Bool.eq_iff_iff, Bool.and_eq_true, beq_iff_eq, beq_iff_eq, decide_eq_true_eq]
    omega
  rw [hg]
  simp only [Bool.and_assoc]

theorem can_p {n : Nat} (hn : c.length = n) {j : Int × Int × Int} (h1 : 0 ≤ j.1 ∧ j.1 < n) (h2 : 0 ≤ j.2.1 ∧ j.2.1 < n) (h3 : 0 ≤ j.2.2 ∧ j.2.2 < n) : pegs_jump_can_m j.1 j.2.1 j.2.2 c = some (canC c j) := by
  unfold pegs_jump_can_m canC
  rw [asrt_pos (by omega), asrt_pos (fun _ => by omega), asrt_pos (fun _ => by omega)]

theorem allJ_mem {j : Int × Int × Int} : j ∈ allJ W H c ↔ ∃ a b : Nat, a < W * H ∧ b < W * H ∧ geoJ W a b = true ∧ okJ c a (((a : Int) + b) / 2) b = true ∧ j = midJ ((a : Int), (b : Int)) := by
  unfold allJ allP
  simp only [List.mem_map, List.mem_flatMap, List.mem_range, List.mem_filter, Bool.and_eq_true]
  constructor
  · rintro ⟨p, ⟨a, ha, b, ⟨hb, hg, hk⟩, rfl⟩, rfl⟩
    exact ⟨a, b, ha, hb, hg, hk, rfl⟩
  · rintro ⟨a, b, ha, hb, hg, hk, rfl⟩
    exact ⟨_, ⟨a, ha, b, ⟨hb, hg, hk⟩, rfl⟩, rfl⟩
theorem allJ_bd {n : Nat} (hn : n = W * H) {j : Int × Int × Int} (h : j ∈ allJ W H c) : (0 ≤ j.1 ∧ j.1 < n) ∧ (0 ≤ j.2.1 ∧ j.2.1 < n) ∧ (0 ≤ j.2.2 ∧ j.2.2 < n) := by
  obtain ⟨a, b, ha, hb, _, _, rfl⟩ := allJ_mem.1 h
  unfold midJ
  simp only
  omega

/-- The jumps that can be made, as the document tells them. -/
def jumpsL (W : Nat) (c : List Int) : List (Int × Int × Int) := (List.range c.length).flatMap fun a => ((List.range c.length).filter fun (b : Nat) => canB W c a b).map fun (b : Nat) => ((a : Int), (b : Int), (0 : Int))

theorem can_ok {a b : Int} (h : canC c (midJ (a, b)) = true) : okJ c a ((a + b) / 2) b = true := by
  unfold canC midJ at h
  unfold okJ
  simp only [Bool.and_eq_true, beq_iff_eq, bne_iff_ne] at h ⊢
  omega

end
end Go.Proofs.Ytjfloofoobllaaa
namespace Go.Proofs.Ytjfloofoobllaaa
open Go Go.GL

section
variable {W H : Nat} {c : List Int}

theorem allJ_len (B : Dm W H c) : (allJ W H c).length ≤ 400 := by
  have h1 : (rawJ W H (okJ c)).length ≤ 4 * (W * H) := part_len W H (okJ c) (W * H)
  have h2 := len_le B
  rw [len_nat B] at h2
  have h3 : (sortK cfJ (rawJ W H (okJ c))).length = (allJ W H c).length := by rw [sorted_raw]; rfl
  rw [sortK_length] at h3
  omega

theorem row_len (W : Nat) (c : List Int) (a m : Nat) : (((List.range m).filter fun (b : Nat) => canB W c a b).map fun (b : Nat) => ((a : Int), (b : Int), (0 : Int))).length ≤ m := by
  rw [List.length_map]
  exact Nat.le_trans (List.length_filter_le _ _) (by rw [List.length_range]; exact Nat.le_refl _)

theorem refRow_p (B : Dm W H c) {a : Nat} (ha : a < c.length) {l : List (Int × Int × Int)} (hl : l.length ≤ 20000) :
    loop (gameroomref_JumpsOf_L2 W H c a) (l, 0) = some (l ++ ((List.range c.length).filter fun (b : Nat) => canB W c a b).map fun (b : Nat) => ((a : Int), (b : Int), (0 : Int))) := by
  have hc := len_le B
  refine loop_from (fun m : Nat => (l ++ ((List.range m).filter fun (b : Nat) => canB W c a b).map fun (b : Nat) => ((a : Int), (b : Int), (0 : Int)), (m : Int))) c.length (by simp) (fun m hm => ?_) ?_
  · have hr := row_len W c a m
    simp only [gameroomref_JumpsOf_L2]
    rw [if_pos (decide_eq_true (by omega))]
    unfold gameroomref_JumpsOf_J4 gameroomref_JumpsOf_J5
    rw [jumpCan_in B ha hm, Option.bind_some, w64_succ (by omega), List.range_succ, List.filter_append, List.map_append]
    cases hcb : canB W c a m with
    | true =>
      rw [if_pos rfl, asrt_pos (by rw [List.length_append]; unfold bigT; omega)]
      simp [hcb]
    | false =>
      rw [if_neg (by simp)]
      simp [hcb]
  · simp only [gameroomref_JumpsOf_L2]
    exact if_neg (by simp)

theorem refJ_len (W : Nat) (c : List Int) (m : Nat) : ((List.range m).flatMap fun a => ((List.range c.length).filter fun (b : Nat) => canB W c a b).map fun (b : Nat) => ((a : Int), (b : Int), (0 : Int))).length ≤ m * c.length := by
  induction m with
  | zero => simp
  | succ m ih =>
    rw [List.range_succ, List.flatMap_append, List.length_append, List.flatMap_cons, List.flatMap_nil, List.append_nil, Nat.add_mul, Nat.one_mul]
    have := row_len W c m c.length
    omega

theorem JumpsOf_p (B : Dm W H c) : gameroomref_JumpsOf_m W H c = some (jumpsL W c) := by
  have hc := len_le B
  unfold gameroomref_JumpsOf_m
  have hl : loop (gameroomref_JumpsOf_L1 W H c) (([] : List (Int × Int × Int)), 0) = some (jumpsL W c) := by
    refine loop_from (fun m : Nat => ((List.range m).flatMap fun a => ((List.range c.length).filter fun (b : Nat) => canB W c a b).map fun (b : Nat) => ((a : Int), (b : Int), (0 : Int)), (m : Int))) c.length rfl (fun m hm => ?_) ?_
    · have hr := refJ_len W c m
      have hmc : m * c.length ≤ 100 * 100 := Nat.mul_le_mul (by omega) hc
      simp only [gameroomref_JumpsOf_L1]
      rw [if_pos (decide_eq_true (by omega))]
      unfold gameroomref_JumpsOf_J2
      rw [refRow_p B hm (by omega), Option.bind_some]
      simp only [gameroomref_JumpsOf_K2, gameroomref_JumpsOf_J3]
      rw [w64_succ (by omega), List.range_succ, List.flatMap_append, List.flatMap_cons, List.flatMap_nil, List.append_nil]
      rfl
    · simp only [gameroomref_JumpsOf_L1]
      exact if_neg (by simp)
  rw [hl, Option.bind_some]
  rfl

theorem jumpsL_len (B : Dm W H c) : (jumpsL W c).length ≤ 10000 := by
  have hc := len_le B
  have h1 : (jumpsL W c).length ≤ c.length * c.length := refJ_len W c c.length
  have h2 : c.length * c.length ≤ 100 * 100 := Nat.mul_le_mul hc hc
  omega

end
end Go.Proofs.Ytjfloofoobllaaa
namespace Go.Proofs.Ytjfloofoobllaaa
open Go Go.GL

section
variable {W H : Nat} {c d : List Int}

/-- The walls stand as they stood. -/
structure Wl (c d : List Int) : Prop where
  len : d.length = c.length
  wall : ∀ i : Nat, i < c.length → (geti d i = 2 ↔ geti c i = 2)

theorem ok_walls (h : Wl c d) {a m b : Int} (ha : 0 ≤ a ∧ a < c.length) (hm : 0 ≤ m ∧ m < c.length) (hb : 0 ≤ b ∧ b < c.length) (hk : okJ d a m b = true) : okJ c a m b = true := by
  have h1 := h.wall a.toNat (by omega)
  have h2 := h.wall m.toNat (by omega)
  have h3 := h.wall b.toNat (by omega)
  rw [show ((a.toNat : Nat) : Int) = a by omega] at h1
  rw [show ((m.toNat : Nat) : Int) = m by omega] at h2
  rw [show ((b.toNat : Nat) : Int) = b by omega] at h3
  unfold okJ at hk ⊢
  simp only [Bool.and_eq_true, bne_iff_ne] at hk ⊢
  exact ⟨⟨fun q => hk.1.1 (h1.2 q), fun q => hk.1.2 (h2.2 q)⟩, fun q => hk.2 (h3.2 q)⟩

theorem geo_ne (B : Dm W H c) {a b : Nat} (hg : geoJ W a b = true) : ((a : Int) + b) / 2 ≠ a ∧ ((a : Int) + b) / 2 ≠ b ∧ (a : Int) ≠ b := by
  obtain ⟨e, he, h1, h2⟩ := geoJ_iff.1 hg
  have hW := B.w
  have ha2 : ((a / W : Nat) : Int) * W + ((a % W : Nat) : Int) = a := by
    have := Nat.div_add_mod a W
    rw [Nat.mul_comm] at this
    rw [← Int.natCast_mul, ← Int.natCast_add, this]
  have hb2 : ((b / W : Nat) : Int) * W + ((b % W : Nat) : Int) = b := by
    have := Nat.div_add_mod b W
    rw [Nat.mul_comm] at this
    rw [← Int.natCast_mul, ← Int.natCast_add, this]
  rw [h1, h2, Int.add_mul, Int.mul_assoc] at hb2
  generalize ((a / W : Nat) : Int) * W = u at ha2 hb2
  generalize ((a % W : Nat) : Int) = v at ha2 hb2
  rcases mem_dirs.1 he with ⟨e1, e2⟩ | ⟨e1, e2⟩ | ⟨e1, e2⟩ | ⟨e1, e2⟩ <;> rw [e1, e2] at hb2 <;> omega

/-- The places behind a jump. -/
def doneJ (d : List Int) (a b : Nat) : List Int := ((d.set a 0).set ((a + b) / 2) 0).set b 1

theorem turn_p (D : Dm W H d) {a b : Nat} (ha : a < d.length) (hb : b < d.length) (hc : canB W d a b = true) : pegs_jump_turn_2_m (a : Int) (((a : Int) + b) / 2) b d = some (doneJ d a b) := by
  unfold canB at hc
  rw [Bool.and_eq_true] at hc
  obtain ⟨hg, hcan⟩ := hc
  obtain ⟨n1, n2, n3⟩ := geo_ne D hg
  have hmm := mid_in D ha hb
  unfold canC midJ at hcan
  simp only [Bool.and_eq_true, beq_iff_eq] at hcan
  obtain ⟨⟨c1, c2⟩, c3⟩ := hcan
  have em : ((a : Int) + b) / 2 = (((a + b) / 2 : Nat) : Int) := by omega
  generalize hm : (a + b) / 2 = m at em
  rw [em] at c2 n1 n2 hmm ⊢
  have t0 : geti ([(a : Int), (m : Int), (b : Int)] : List Int) ((0 : Nat) : Int) = a := rfl
  have t1 : geti ([(a : Int), (m : Int), (b : Int)] : List Int) ((1 : Nat) : Int) = m := rfl
  have t2 : geti ([(a : Int), (m : Int), (b : Int)] : List Int) ((2 : Nat) : Int) = b := rfl
  have s0 : pegs_jump_turn_2_L1 a m b d (d, ((0 : Nat) : Int)) = some (.next (d.set a 0, ((1 : Nat) : Int))) := by
    simp only [pegs_jump_turn_2_L1]
    rw [if_pos (by decide)]
    unfold pegs_jump_turn_2_J2 pegs_jump_turn_2_J3
    rw [t0, asrt_pos (by decide), asrt_pos (by omega), asrt_pos (by omega), c1, show bXor 1 1 = 0 by decide, Int.toNat_natCast]
    rfl
  have s1 : pegs_jump_turn_2_L1 a m b d (d.set a 0, ((1 : Nat) : Int)) = some (.next ((d.set a 0).set m 0, ((2 : Nat) : Int))) := by
    simp only [pegs_jump_turn_2_L1]
    rw [if_pos (by decide)]
    unfold pegs_jump_turn_2_J2 pegs_jump_turn_2_J3
    rw [t1, asrt_pos (by decide), asrt_pos (by omega), asrt_pos (by omega), geti_set' (by omega) ha, if_neg n1, c2, show bXor 1 1 = 0 by decide, Int.toNat_natCast]
    rfl
  have s2 : pegs_jump_turn_2_L1 a m b d ((d.set a 0).set m 0, ((2 : Nat) : Int)) = some (.next (((d.set a 0).set m 0).set b 1, ((3 : Nat) : Int))) := by
    simp only [pegs_jump_turn_2_L1]
    rw [if_pos (by decide)]
    unfold pegs_jump_turn_2_J2 pegs_jump_turn_2_J3
    rw [t2, asrt_pos (by decide), asrt_pos (by omega), asrt_pos (by omega), geti_set' (by omega) (by rw [List.length_set]; omega), if_neg (fun q => n2 q.symm), geti_set' (by omega) ha, if_neg (fun q => n3 q.symm), c3, show bXor 0 1 = 1 by decide, Int.toNat_natCast]
    rfl
  have s3 : pegs_jump_turn_2_L1 a m b d (((d.set a 0).set m 0).set b 1, ((3 : Nat) : Int)) = some (.done (((d.set a 0).set m 0).set b 1)) := by
    simp only [pegs_jump_turn_2_L1]
    exact if_neg (by decide)
  unfold pegs_jump_turn_2_m doneJ
  have := loop_next' s0 (loop_next' s1 (loop_next' s2 (loop_done s3)))
  rw [show ((0 : Nat) : Int) = 0 from rfl] at this
  rw [this, Option.bind_some, hm]
  rfl

theorem done_p (D : Dm W H d) {a b : Nat} (ha : a < d.length) (hb : b < d.length) (into : Int) : gameroomref_JumpDone_m W H d a b into = some ((W : Int), (H : Int), doneJ d a b) := by
  have hl := len_le D
  have hmm := mid_in D ha hb
  have hgo : gameroomref_GridOf_m (W : Int) (H : Int) d = some ((W : Int), (H : Int), d) := by
    unfold gameroomref_GridOf_m gameroomref_Ints_m
    rw [asrt_pos (by unfold bigN; omega)]
    simp
  have hm : w64 (Int.tdiv (w64 ((a : Int) + b)) 2) = (((a + b) / 2 : Nat) : Int) := by
    rw [w64_of (x := (a : Int) + b) (by omega), Int.tdiv_eq_ediv_of_nonneg (by omega), w64_of (by omega)]
    omega
  unfold gameroomref_JumpDone_m
  rw [hgo, Option.bind_some]
  simp only
  rw [hm, asrt_pos (by omega), asrt_pos (by omega), asrt_pos (by omega), Int.toNat_natCast, Int.toNat_natCast, Int.toNat_natCast]
  rfl

theorem done_walls (B : Dm W H d) (hw : Wl c d) {a b : Nat} (ha : a < d.length) (hb : b < d.length) (hc : canB W d a b = true) : Wl c (doneJ d a b) ∧ Dm W H (doneJ d a b) := by
  have hmm := mid_in B ha hb
  have hlen : (doneJ d a b).length = d.length := by unfold doneJ; simp
  refine ⟨⟨by rw [hlen]; exact hw.len, fun i hi => ?_⟩, ⟨B.w, B.h, by rw [hlen]; exact B.len⟩⟩
  unfold canB at hc
  rw [Bool.and_eq_true] at hc
  have hcan := hc.2
  unfold canC midJ at hcan
  simp only [Bool.and_eq_true, beq_iff_eq] at hcan
  have hi2 : i < d.length := by rw [hw.len]; exact hi
  unfold doneJ
  rw [geti_set' (by omega) (by simp; exact hb), geti_set' (by omega) (by simp; omega), geti_set' (by omega) ha, ← hw.wall i hi]
  by_cases e1 : (i : Int) = b
  · rw [if_pos e1, e1, hcan.2]; simp
  · rw [if_neg e1]
    by_cases e2 : (i : Int) = (((a + b) / 2 : Nat) : Int)
    · rw [if_pos e2]
      have : geti d (i : Int) = 1 := by rw [e2, show (((a + b) / 2 : Nat) : Int) = ((a : Int) + b) / 2 by omega]; exact hcan.1.2
      rw [this]; simp
    · rw [if_neg e2]
      by_cases e3 : (i : Int) = a
      · rw [if_pos e3, e3, hcan.1.1]; simp
      · rw [if_neg e3]
end
end Go.Proofs.Ytjfloofoobllaaa
