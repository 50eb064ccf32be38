/-
  Pegs: whether a jump can be made; the jumps that can be made.
-/
import Derived.Test.YtlkdblflibgfpaaPJc
namespace Go.Proofs.Ytlkdblflibgfpaa
open Go Go.GL

theorem mul_bd2 {a b : Int} (h1 : -20 ≤ a ∧ a ≤ 20) (h2 : -20 ≤ b ∧ b ≤ 20) : -400 ≤ a * b ∧ a * b ≤ 400 := by
  by_cases hb : 0 ≤ b
  · exact mul_bd h1 ⟨hb, h2.2⟩
  · have := mul_bd (b := -b) h1 (by omega)
    rw [Int.mul_neg] at this
    omega

theorem size_p {x : Int} (h : -100 ≤ x ∧ x ≤ 100) : gameroomref_size_m x = some ((x.natAbs : Nat) : Int) := by
  unfold gameroomref_size_m gameroomref_size_J1
  by_cases hx : x < 0
  · rw [if_pos (decide_eq_true hx), w64_of (by omega)]
    congr 1; omega
  · rw [if_neg (by rw [decide_eq_true_eq]; exact hx)]
    congr 1; omega

theorem flatMap_ext {α β : Type} {f g : α → List β} : ∀ {l : List α}, (∀ a ∈ l, f a = g a) → l.flatMap f = l.flatMap g
  | [], _ => rfl
  | a :: l, h => by rw [List.flatMap_cons, List.flatMap_cons, h a (by simp), flatMap_ext fun b hb => h b (by simp [hb])]

/-- Can a jump be made, as places stand? -/
def canC (c : List Int) (j : Int × Int × Int) : Bool := ((geti c j.1 == 1) && (geti c j.2.1 == 1)) && (geti c j.2.2 == 0)
def canB (W : Nat) (c : List Int) (a b : Nat) : Bool := geoJ W a b && canC c (midJ ((a : Int), (b : Int)))

section
variable {W H : Nat} {c : List Int}

theorem len_nat (B : Dm W H c) : c.length = W * H := by have := B.len; rw [← Int.natCast_mul] at this; exact Int.ofNat_inj.1 this
theorem len_le (B : Dm W H c) : c.length ≤ 100 := by
  have := B.w
  have := B.h
  rw [len_nat B]
  exact Nat.le_trans (Nat.mul_le_mul (show W ≤ 10 by omega) (show H ≤ 10 by omega)) (by decide)

theorem mid_in (B : Dm W H c) {a b : Nat} (ha : a < c.length) (hb : b < c.length) : 0 ≤ ((a : Int) + b) / 2 ∧ ((a : Int) + b) / 2 < c.length := by omega

theorem jumpCan_in (B : Dm W H c) {a b : Nat} (ha : a < c.length) (hb : b < c.length) : gameroomref_JumpCan_m W H c a b = some (canB W c a b) := by
  have hW := B.w
  have hH := B.h
  have hl := len_le B
  have hmm := mid_in B ha hb
  have hax : a % W < W := Nat.mod_lt _ (by omega)
  have hbx : b % W < W := Nat.mod_lt _ (by omega)
  have hay : a / W ≤ a := Nat.div_le_self _ _
  have hby : b / W ≤ b := Nat.div_le_self _ _
  have hayH : a / W < H := Nat.div_lt_of_lt_mul (by rw [← len_nat B]; exact ha)
  have hbyH : b / W < H := Nat.div_lt_of_lt_mul (by rw [← len_nat B]; exact hb)
  unfold gameroomref_JumpCan_m gameroomref_within_m gameroomref_JumpCan_J1
  rw [w64_of (x := (c.length : Int) - 1) (by omega), decide_eq_true (show (0 : Int) ≤ a by omega), decide_eq_true (show (a : Int) ≤ (c.length : Int) - 1 by omega), decide_eq_true (show (0 : Int) ≤ b by omega), decide_eq_true (show (b : Int) ≤ (c.length : Int) - 1 by omega)]
  simp only [Bool.and_self, Option.bind_some, Bool.not_true, Bool.not_false, if_true, Bool.or_self, Bool.false_eq_true, if_false]
  rw [asrt_pos (by omega), asrt_pos (by omega), asrt_pos (by omega), asrt_pos (by omega), show Int.tmod (a : Int) (W : Int) = ((a % W : Nat) : Int) from rfl, show Int.tdiv (a : Int) (W : Int) = ((a / W : Nat) : Int) from rfl, show Int.tmod (b : Int) (W : Int) = ((b % W : Nat) : Int) from rfl, show Int.tdiv (b : Int) (W : Int) = ((b / W : Nat) : Int) from rfl]
  unfold canB geoJ canC midJ
  simp only
  generalize hx : ((a % W : Nat) : Int) = x
  generalize hy : ((a / W : Nat) : Int) = y
  generalize hx' : ((b % W : Nat) : Int) = x'
  generalize hy' : ((b / W : Nat) : Int) = y'
  have hx0 : 0 ≤ x ∧ x < W := by rw [← hx]; exact ⟨Int.natCast_nonneg _, Int.ofNat_lt.2 hax⟩
  have hx1 : 0 ≤ x' ∧ x' < W := by rw [← hx']; exact ⟨Int.natCast_nonneg _, Int.ofNat_lt.2 hbx⟩
  have hy0 : 0 ≤ y ∧ y < H := by rw [← hy]; exact ⟨Int.natCast_nonneg _, Int.ofNat_lt.2 hayH⟩
  have hy1 : 0 ≤ y' ∧ y' < H := by rw [← hy']; exact ⟨Int.natCast_nonneg _, Int.ofNat_lt.2 hbyH⟩
  clear hx hy hx' hy' hax hbx hay hby hayH hbyH
  have m1 := mul_bd2 (a := x' - x) (b := y' - y) (by omega) (by omega)
  rw [w64_of (x := y) (by omega), w64_of (x := y') (by omega), w64_of (x := x' - x) (by omega), w64_of (x := y' - y) (by omega), w64_of (x := (x' - x) * (y' - y)) (by omega), size_p (by omega), size_p (by omega)]
  simp only [Option.bind_some]
  have hm : w64 (Int.tdiv (w64 ((a : Int) + b)) 2) = ((a : Int) + b) / 2 := by
    rw [w64_of (x := (a : Int) + b) (by omega), Int.tdiv_eq_ediv_of_nonneg (by omega), w64_of (by omega)]
  rw [hm, asrt_pos (fun _ => by omega), asrt_pos (fun _ => hmm), asrt_pos (fun _ => by omega), w64_of (by omega)]
  congr 1
  have hg : (((((x' - x).natAbs : Nat) : Int) + (((y' - y).natAbs : Nat) : Int) == 2) && ((x' - x) * (y' - y) == 0)) = decide ((x' - x).natAbs + (y' - y).natAbs = 2 ∧ (x' - x) * (y' - y) = 0) := by
    rw [Bool.eq_iff_iff, Bool.and_eq_true, beq_iff_eq, beq_iff_eq, decide_eq_true_eq]
    omega
  rw [hg]
  simp only [Bool.and_assoc]

theorem jumpCan_out (B : Dm W H c) {f t : Int} (h : ¬ (0 ≤ f ∧ f < c.length ∧ 0 ≤ t ∧ t < c.length)) : gameroomref_JumpCan_m W H c f t = some false := by
  have hl := len_le B
  have hW := B.w
  have hH := B.h
  unfold gameroomref_JumpCan_m gameroomref_within_m
  rw [w64_of (x := (c.length : Int) - 1) (by omega)]
  by_cases hf : 0 ≤ f ∧ f < c.length
  · rw [decide_eq_true hf.1, decide_eq_true (show f ≤ (c.length : Int) - 1 by omega)]
    have ht : (decide ((0 : Int) ≤ t) && decide (t ≤ (c.length : Int) - 1)) = false := by
      rw [Bool.eq_false_iff]
      intro q
      rw [Bool.and_eq_true, decide_eq_true_eq, decide_eq_true_eq] at q
      omega
    rw [ht]
    rfl
  · have ht : (decide ((0 : Int) ≤ f) && decide (f ≤ (c.length : Int) - 1)) = false := by
      rw [Bool.eq_false_iff]
      intro q
      rw [Bool.and_eq_true, decide_eq_true_eq, decide_eq_true_eq] at q
      omega
    rw [ht]
    rfl

theorem can_p {n : Nat} (hn : c.length = n) {j : Int × Int × Int} (h1 : 0 ≤ j.1 ∧ j.1 < n) (h2 : 0 ≤ j.2.1 ∧ j.2.1 < n) (h3 : 0 ≤ j.2.2 ∧ j.2.2 < n) : pegs_jump_can_m j.1 j.2.1 j.2.2 c = some (canC c j) := by
  unfold pegs_jump_can_m canC
  rw [asrt_pos (by omega), asrt_pos (fun _ => by omega), asrt_pos (fun _ => by omega)]

theorem allJ_mem {j : Int × Int × Int} : j ∈ allJ W H c ↔ ∃ a b : Nat, a < W * H ∧ b < W * H ∧ geoJ W a b = true ∧ okJ c a (((a : Int) + b) / 2) b = true ∧ j = midJ ((a : Int), (b : Int)) := by
  unfold allJ allP
  simp only [List.mem_map, List.mem_flatMap, List.mem_range, List.mem_filter, Bool.and_eq_true]
  constructor
  · rintro ⟨p, ⟨a, ha, b, ⟨hb, hg, hk⟩, rfl⟩, rfl⟩
    exact ⟨a, b, ha, hb, hg, hk, rfl⟩
  · rintro ⟨a, b, ha, hb, hg, hk, rfl⟩
    exact ⟨_, ⟨a, ha, b, ⟨hb, hg, hk⟩, rfl⟩, rfl⟩
theorem allJ_bd {n : Nat} (hn : n = W * H) {j : Int × Int × Int} (h : j ∈ allJ W H c) : (0 ≤ j.1 ∧ j.1 < n) ∧ (0 ≤ j.2.1 ∧ j.2.1 < n) ∧ (0 ≤ j.2.2 ∧ j.2.2 < n) := by
  obtain ⟨a, b, ha, hb, _, _, rfl⟩ := allJ_mem.1 h
  unfold midJ
  simp only
  omega

/-- The jumps that can be made, as the document tells them. -/
def jumpsL (W : Nat) (c : List Int) : List (Int × Int × Int) := (List.range c.length).flatMap fun a => ((List.range c.length).filter fun (b : Nat) => canB W c a b).map fun (b : Nat) => ((a : Int), (b : Int), (0 : Int))

theorem can_ok {a b : Int} (h : canC c (midJ (a, b)) = true) : okJ c a ((a + b) / 2) b = true := by
  unfold canC midJ at h
  unfold okJ
  simp only [Bool.and_eq_true, beq_iff_eq, bne_iff_ne] at h ⊢
  omega

theorem filt_jumps (B : Dm W H c) : ((allJ W H c).filter (canC c)).map (fun j => (j.1, j.2.2, (0 : Int))) = jumpsL W c := by
  unfold allJ allP jumpsL
  rw [List.filter_map, List.map_map, List.filter_flatMap, List.map_flatMap, len_nat B]
  refine flatMap_ext fun a ha => ?_
  rw [List.filter_map, List.map_map, List.filter_filter]
  have : ((List.range (W * H)).filter fun (b : Nat) => ((canC c ∘ midJ) ∘ fun (b : Nat) => ((a : Int), (b : Int))) b && (geoJ W a b && okJ c a (((a : Int) + b) / 2) b)) = (List.range (W * H)).filter fun (b : Nat) => canB W c a b := by
    refine List.filter_congr fun b hb => ?_
    unfold canB
    rw [Bool.eq_iff_iff]
    simp only [Function.comp, Bool.and_eq_true]
    constructor
    · rintro ⟨h1, h2, _⟩; exact ⟨h2, h1⟩
    · rintro ⟨h1, h2⟩; exact ⟨h2, h1, can_ok h2⟩
  rw [this]
  rfl
end
end Go.Proofs.Ytlkdblflibgfpaa
