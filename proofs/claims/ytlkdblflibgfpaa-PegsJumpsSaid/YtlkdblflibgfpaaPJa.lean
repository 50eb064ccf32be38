/-
  Jumps of pegs, in plain words: all that a board has room for, in order; the same by pairs.
-/
import Derived.Test.YtlkdblflibgfpaaLibSJ
namespace Go.GL
open Go Go.Sort Go.Proofs

def dirsJ : List (Int × Int) := [(1, 0), (-1, 0), (0, 1), (0, -1)]

section
variable {W H : Nat} {ok : Int → Int → Int → Bool}

/-- A jump from a place in a direction. -/
def stepJ (W H : Nat) (ok : Int → Int → Int → Bool) (a : Nat) (d : Int × Int) : List (Int × Int × Int) :=
  if (0 ≤ ((a % W : Nat) : Int) + 2 * d.1 ∧ ((a % W : Nat) : Int) + 2 * d.1 < W ∧ 0 ≤ ((a / W : Nat) : Int) + 2 * d.2 ∧ ((a / W : Nat) : Int) + 2 * d.2 < H) ∧
      ok a ((((a / W : Nat) : Int) + d.2) * W + ((a % W : Nat) : Int) + d.1) ((((a / W : Nat) : Int) + 2 * d.2) * W + (((a % W : Nat) : Int) + 2 * d.1)) = true then
    [((a : Int), (((a / W : Nat) : Int) + d.2) * W + ((a % W : Nat) : Int) + d.1, (((a / W : Nat) : Int) + 2 * d.2) * W + (((a % W : Nat) : Int) + 2 * d.1))] else []
def rawJ (W H : Nat) (ok : Int → Int → Int → Bool) : List (Int × Int × Int) := (List.range (W * H)).flatMap fun a => dirsJ.flatMap (stepJ W H ok a)

/-- As the document says which places a jump parts. -/
def geoJ (W : Nat) (a b : Nat) : Bool := decide ((((b % W : Nat) : Int) - (a % W : Nat)).natAbs + (((b / W : Nat) : Int) - (a / W : Nat)).natAbs = 2 ∧ (((b % W : Nat) : Int) - (a % W : Nat)) * (((b / W : Nat) : Int) - (a / W : Nat)) = 0)
def allP (W H : Nat) (ok : Int → Int → Int → Bool) : List (Int × Int) := (List.range (W * H)).flatMap fun a => ((List.range (W * H)).filter fun (b : Nat) => geoJ W a b && ok a (((a : Int) + b) / 2) b).map fun (b : Nat) => ((a : Int), (b : Int))

theorem mem_dirs {d : Int × Int} : d ∈ dirsJ ↔ (d.1 = 1 ∧ d.2 = 0) ∨ (d.1 = -1 ∧ d.2 = 0) ∨ (d.1 = 0 ∧ d.2 = 1) ∨ (d.1 = 0 ∧ d.2 = -1) := by
  obtain ⟨a, b⟩ := d
  simp [dirsJ]

theorem mid_step {w : Int} (x y d1 d2 : Int) (hd : (d1 = 1 ∧ d2 = 0) ∨ (d1 = -1 ∧ d2 = 0) ∨ (d1 = 0 ∧ d2 = 1) ∨ (d1 = 0 ∧ d2 = -1)) : (y + d2) * w + x + d1 = ((y * w + x) + ((y + 2 * d2) * w + (x + 2 * d1))) / 2 := by
  have e1 : (y + d2) * w = y * w + d2 * w := Int.add_mul ..
  have e2 : (y + 2 * d2) * w = y * w + 2 * (d2 * w) := by rw [Int.add_mul, Int.mul_assoc]
  rw [e1, e2]
  generalize y * w = t
  generalize d2 * w = u
  rcases hd with ⟨rfl, _⟩ | ⟨rfl, _⟩ | ⟨rfl, _⟩ | ⟨rfl, _⟩ <;> omega

theorem rawJ_mid : midOk (rawJ W H ok) := by
  intro j hj
  unfold rawJ at hj
  obtain ⟨a, ha, hj⟩ := List.mem_flatMap.1 hj
  obtain ⟨d, hd, hj⟩ := List.mem_flatMap.1 hj
  unfold stepJ at hj
  split at hj
  · rw [List.mem_singleton] at hj
    subst hj
    have h := mid_step (w := (W : Int)) ((a % W : Nat) : Int) ((a / W : Nat) : Int) d.1 d.2 (mem_dirs.1 hd)
    have ha2 : ((a / W : Nat) : Int) * W + ((a % W : Nat) : Int) = a := by
      have := Nat.div_add_mod a W
      rw [Nat.mul_comm] at this
      rw [← Int.natCast_mul, ← Int.natCast_add, this]
    rw [ha2] at h
    exact h
  · simp at hj

theorem coords {b : Nat} (x y : Nat) (hx : x < W) (hb : b = y * W + x) : b % W = x ∧ b / W = y := by
  have hW : 0 < W := by omega
  subst hb
  constructor
  · rw [Nat.mul_comm, Nat.mul_add_mod, Nat.mod_eq_of_lt hx]
  · rw [Nat.mul_comm, Nat.mul_add_div hW, Nat.div_eq_of_lt hx, Nat.add_zero]

theorem geoJ_iff {a b : Nat} : geoJ W a b = true ↔ ∃ d ∈ dirsJ, ((b % W : Nat) : Int) = (a % W : Nat) + 2 * d.1 ∧ ((b / W : Nat) : Int) = (a / W : Nat) + 2 * d.2 := by
  unfold geoJ
  rw [decide_eq_true_eq]
  generalize ((b % W : Nat) : Int) = x'
  generalize ((b / W : Nat) : Int) = y'
  generalize ((a % W : Nat) : Int) = x
  generalize ((a / W : Nat) : Int) = y
  constructor
  · rintro ⟨h1, h2⟩
    rcases Int.mul_eq_zero.1 h2 with h | h
    · have : y' - y = 2 ∨ y' - y = -2 := by omega
      rcases this with h3 | h3
      · exact ⟨(0, 1), mem_dirs.2 (by simp), by simp only; omega, by simp only; omega⟩
      · exact ⟨(0, -1), mem_dirs.2 (by simp), by simp only; omega, by simp only; omega⟩
    · have : x' - x = 2 ∨ x' - x = -2 := by omega
      rcases this with h3 | h3
      · exact ⟨(1, 0), mem_dirs.2 (by simp), by simp only; omega, by simp only; omega⟩
      · exact ⟨(-1, 0), mem_dirs.2 (by simp), by simp only; omega, by simp only; omega⟩
  · rintro ⟨d, hd, h1, h2⟩
    rcases mem_dirs.1 hd with ⟨e1, e2⟩ | ⟨e1, e2⟩ | ⟨e1, e2⟩ | ⟨e1, e2⟩ <;> rw [e1] at h1 <;> rw [e2] at h2
    · rw [show y' - y = 0 by omega]; simp; omega
    · rw [show y' - y = 0 by omega]; simp; omega
    · rw [show x' - x = 0 by omega]; simp; omega
    · rw [show x' - x = 0 by omega]; simp; omega

/-- The jumps by pairs. -/
def rawP (W H : Nat) (ok : Int → Int → Int → Bool) : List (Int × Int) := (rawJ W H ok).map fun x => (x.1, x.2.2)

theorem rawP_mem {p : Int × Int} : p ∈ rawP W H ok ↔ p ∈ allP W H ok := by
  unfold rawP rawJ allP
  rw [List.mem_map]
  simp only [List.mem_flatMap, List.mem_range, List.mem_map, List.mem_filter, Bool.and_eq_true]
  constructor
  · rintro ⟨j, ⟨a, ha, d, hd, hj⟩, rfl⟩
    unfold stepJ at hj
    split at hj
    · rename_i hc
      rw [List.mem_singleton] at hj
      subst hj
      obtain ⟨⟨c1, c2, c3, c4⟩, hok⟩ := hc
      obtain ⟨x', hx'⟩ : ∃ x' : Nat, ((a % W : Nat) : Int) + 2 * d.1 = x' := ⟨_, (Int.toNat_of_nonneg c1).symm⟩
      obtain ⟨y', hy'⟩ : ∃ y' : Nat, ((a / W : Nat) : Int) + 2 * d.2 = y' := ⟨_, (Int.toNat_of_nonneg c3).symm⟩
      rw [hx'] at c2
      rw [hy'] at c4
      obtain ⟨e1, e2⟩ := coords (W := W) (b := y' * W + x') x' y' (by omega) rfl
      have hm := mid_step (w := (W : Int)) ((a % W : Nat) : Int) ((a / W : Nat) : Int) d.1 d.2 (mem_dirs.1 hd)
      have ha2 : ((a / W : Nat) : Int) * W + ((a % W : Nat) : Int) = a := by
        have := Nat.div_add_mod a W
        rw [Nat.mul_comm] at this
        rw [← Int.natCast_mul, ← Int.natCast_add, this]
      rw [ha2] at hm
      rw [hm, hx', hy'] at hok
      refine ⟨a, ha, y' * W + x', ⟨?_, geoJ_iff.2 ⟨d, hd, by rw [e1, hx'], by rw [e2, hy']⟩, ?_⟩, ?_⟩
      · have h1 : (y' + 1) * W ≤ H * W := Nat.mul_le_mul_right _ (by omega)
        rw [Nat.add_mul, Nat.one_mul] at h1
        rw [Nat.mul_comm W H]
        omega
      · rw [Int.natCast_add, Int.natCast_mul]; exact hok
      · rw [hx', hy', Int.natCast_add, Int.natCast_mul]
    · simp at hj
  · rintro ⟨a, ha, b, ⟨hb, hg, hok⟩, rfl⟩
    obtain ⟨d, hd, h1, h2⟩ := geoJ_iff.1 hg
    have hW : 0 < W := by
      rcases Nat.eq_zero_or_pos W with h | h
      · subst h; simp at ha
      · exact h
    have hx : b % W < W := Nat.mod_lt _ hW
    have hy : b / W < H := Nat.div_lt_of_lt_mul hb
    have hm := mid_step (w := (W : Int)) ((a % W : Nat) : Int) ((a / W : Nat) : Int) d.1 d.2 (mem_dirs.1 hd)
    have ha2 : ((a / W : Nat) : Int) * W + ((a % W : Nat) : Int) = a := by
      have := Nat.div_add_mod a W
      rw [Nat.mul_comm] at this
      rw [← Int.natCast_mul, ← Int.natCast_add, this]
    have hb2 : ((b / W : Nat) : Int) * W + ((b % W : Nat) : Int) = b := by
      have := Nat.div_add_mod b W
      rw [Nat.mul_comm] at this
      rw [← Int.natCast_mul, ← Int.natCast_add, this]
    rw [ha2, ← h1, ← h2, hb2] at hm
    refine ⟨((a : Int), (((a / W : Nat) : Int) + d.2) * W + ((a % W : Nat) : Int) + d.1, (((a / W : Nat) : Int) + 2 * d.2) * W + (((a % W : Nat) : Int) + 2 * d.1)), ⟨a, ha, d, hd, ?_⟩, ?_⟩
    · unfold stepJ
      rw [if_pos]
      · simp
      · refine ⟨⟨by rw [← h1]; exact Int.natCast_nonneg _, by rw [← h1]; exact Int.ofNat_lt.2 hx, by rw [← h2]; exact Int.natCast_nonneg _, by rw [← h2]; exact Int.ofNat_lt.2 hy⟩, ?_⟩
        rw [hm, ← h1, ← h2, hb2]
        exact hok
    · simp only
      rw [← h1, ← h2, hb2]

theorem allP_lt : (allP W H ok).Pairwise (fun x y => ltOf cfP x y = true) := by
  unfold allP
  rw [List.pairwise_flatMap]
  refine ⟨fun a ha => ?_, ?_⟩
  · rw [List.pairwise_map]
    refine (List.pairwise_lt_range.filter _).imp fun {x y} h => (cfP_lt _ _).2 ?_
    right
    exact ⟨rfl, Int.ofNat_lt.2 h⟩
  · refine List.pairwise_lt_range.imp fun {x y} h => ?_
    intro p hp q hq
    obtain ⟨b, _, rfl⟩ := List.mem_map.1 hp
    obtain ⟨b', _, rfl⟩ := List.mem_map.1 hq
    refine (cfP_lt _ _).2 (Or.inl ?_)
    show (x : Int) < (y : Int)
    omega

theorem stepJ_fst {a : Nat} {d : Int × Int} {j : Int × Int × Int} (h : j ∈ stepJ W H ok a d) : j.1 = a ∧ j.2.2 = (((a / W : Nat) : Int) + 2 * d.2) * W + (((a % W : Nat) : Int) + 2 * d.1) ∧ 0 ≤ ((a % W : Nat) : Int) + 2 * d.1 ∧ ((a % W : Nat) : Int) + 2 * d.1 < W ∧ 0 ≤ ((a / W : Nat) : Int) + 2 * d.2 := by
  unfold stepJ at h
  split at h
  · rename_i hc
    rw [List.mem_singleton] at h
    subst h
    exact ⟨rfl, rfl, hc.1.1, hc.1.2.1, hc.1.2.2.1⟩
  · simp at h

theorem rawP_nodup : (rawP W H ok).Nodup := by
  unfold rawP rawJ
  rw [List.map_flatMap]
  unfold List.Nodup
  rw [List.pairwise_flatMap]
  refine ⟨fun a ha => ?_, ?_⟩
  · rw [List.map_flatMap, List.pairwise_flatMap]
    refine ⟨fun d hd => ?_, ?_⟩
    · unfold stepJ
      split <;> simp
    · have hdn : dirsJ.Nodup := by decide
      refine hdn.imp_of_mem fun {d1 d2} h1 h2 hne => ?_
      intro p hp q hq
      obtain ⟨j1, hj1, rfl⟩ := List.mem_map.1 hp
      obtain ⟨j2, hj2, rfl⟩ := List.mem_map.1 hq
      obtain ⟨_, u1, u2, u3, u4⟩ := stepJ_fst hj1
      obtain ⟨_, v1, v2, v3, v4⟩ := stepJ_fst hj2
      intro he
      apply hne
      have he2 : j1.2.2 = j2.2.2 := (Prod.mk.inj he).2
      rw [u1, v1] at he2
      obtain ⟨x1, hx1⟩ : ∃ x' : Nat, ((a % W : Nat) : Int) + 2 * d1.1 = x' := ⟨_, (Int.toNat_of_nonneg u2).symm⟩
      obtain ⟨y1, hy1⟩ : ∃ y' : Nat, ((a / W : Nat) : Int) + 2 * d1.2 = y' := ⟨_, (Int.toNat_of_nonneg u4).symm⟩
      obtain ⟨x2, hx2⟩ : ∃ x' : Nat, ((a % W : Nat) : Int) + 2 * d2.1 = x' := ⟨_, (Int.toNat_of_nonneg v2).symm⟩
      obtain ⟨y2, hy2⟩ : ∃ y' : Nat, ((a / W : Nat) : Int) + 2 * d2.2 = y' := ⟨_, (Int.toNat_of_nonneg v4).symm⟩
      rw [hx1, hy1, hx2, hy2, ← Int.natCast_mul, ← Int.natCast_mul, ← Int.natCast_add, ← Int.natCast_add] at he2
      have he3 : y1 * W + x1 = y2 * W + x2 := Int.ofNat_inj.1 he2
      rw [hx1] at u3
      rw [hx2] at v3
      obtain ⟨c1, c2⟩ := coords (W := W) (b := y1 * W + x1) x1 y1 (by omega) rfl
      obtain ⟨c3, c4⟩ := coords (W := W) (b := y1 * W + x1) x2 y2 (by omega) he3
      have ex : x1 = x2 := by rw [← c1, c3]
      have ey : y1 = y2 := by rw [← c2, c4]
      refine Prod.ext ?_ ?_ <;> omega
  · refine List.nodup_range.imp fun {a a'} hne => ?_
    intro p hp q hq he
    rw [List.map_flatMap] at hp hq
    obtain ⟨d1, _, hp⟩ := List.mem_flatMap.1 hp
    obtain ⟨d2, _, hq⟩ := List.mem_flatMap.1 hq
    obtain ⟨j1, hj1, rfl⟩ := List.mem_map.1 hp
    obtain ⟨j2, hj2, rfl⟩ := List.mem_map.1 hq
    have h1 := (stepJ_fst hj1).1
    have h2 := (stepJ_fst hj2).1
    have h3 : j1.1 = j2.1 := congrArg (fun z : Int × Int => z.1) he
    omega

/-- All jumps, sorted: by pairs in order, each with its middle. -/
theorem sorted_raw : sortK cfJ (rawJ W H ok) = (allP W H ok).map midJ := by
  have h := midOk_map (rawJ_mid (W := W) (H := H) (ok := ok))
  rw [← h, sortJ_map]
  congr 1
  exact sortK_eq cfP_swo cfP_tot rawP_nodup allP_lt fun x => rawP_mem
end
end Go.GL
