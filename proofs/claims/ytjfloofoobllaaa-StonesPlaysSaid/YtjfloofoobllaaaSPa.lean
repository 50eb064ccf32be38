/-
  Stones: what a stone put leaves, and the name of a board.
-/
import Derived.Test.YtjfloofoobllaaaSD
import Derived.Test.YtjfloofoobllaaaLibK
namespace Go.Proofs.Ytjfloofoobllaaa
open Go Go.GL Go.RowKit

def VB (c : List Int) : Prop := ∀ b : Nat, b < c.length → 0 ≤ geti c (b : Int) ∧ geti c (b : Int) ≤ 2

/-- What both make of a stone. -/
theorem put_more {W H : Int} {c : List Int} (B : Dm W H c) (V : VB c) {who : Int} (hw : who = 1 ∨ who = 2) (place : Int) : ∃ r : Int × Int × List Int × Int × Int, stones_put_m W H c who place = some r ∧ gameroomref_PutStone_m W H c who place = some r ∧ (r.2.2.2.2 = 0 → r.1 = W ∧ r.2.1 = H ∧ r.2.2.1.length = c.length ∧ VB r.2.2.1) := by
  have hsm := B.small
  unfold stones_put_m gameroomref_PutStone_m gameroomref_within_m
  rw [Option.bind_some, w64_of (x := (c.length : Int) - 1) (by omega)]
  by_cases hp : 0 ≤ place ∧ place < c.length
  · rw [if_neg (show ¬ (decide (place < 0) || decide ((c.length : Int) ≤ place)) = true by simp; omega), if_neg (show ¬ (!(decide (0 ≤ place) && decide (place ≤ (c.length : Int) - 1))) = true by simp; omega)]
    unfold gameroomref_PutStone_J1
    rw [asrt_pos hp, asrt_pos hp]
    obtain ⟨p, rfl⟩ : ∃ p : Nat, place = p := ⟨place.toNat, by omega⟩
    by_cases hz : geti c p = 0
    · have n0 : ¬ (geti c (p : Int) != 0) = true := by simpa using hz
      rw [if_neg n0, if_neg n0]
      unfold stones_put_J1 gameroomref_PutStone_J2 slices_Clone_m slices_Clone_J1 gameroomref_GridOf_m gameroomref_Ints_m
      rw [asrt_pos (by unfold bigN; omega), List.nil_append]
      simp only [Option.bind_some]
      rw [asrt_pos hp, asrt_pos hp, Int.toNat_natCast]
      generalize hc0 : c.set p who = c0
      have hlc : c.length = c0.length := by rw [← hc0, List.length_set]
      have B0 : Dm W H c0 := B.of_len hlc.symm
      have hat : geti c0 (p : Int) = who := by rw [← hc0, geti_set' (by omega) (by omega), if_pos rfl]
      have hv0 : (3 - who) ≠ 0 := by omega
      have hwv : w64 (3 - who) = 3 - who := w64_of (by omega)
      obtain ⟨g, g1, g2⟩ := take_scan (v := 3 - who) B0 hv0 hwv hlc
      rw [g1, gone_scan (v := 3 - who) B0 hwv hc0 hlc, Option.bind_some, Option.bind_some]
      simp only [stones_put_K1, gameroomref_PutStone_K1]
      unfold stones_put_J2 gameroomref_PutStone_J3
      simp only
      rw [Int.toNat_natCast, hc0, clear_scan B0 hlc, Option.bind_some]
      simp only [gameroomref_PutStone_K2]
      unfold gameroomref_PutStone_J6 gameroomref_PutStone_J9 stones_put_J8
      simp only
      have hfin : setAll c0 (goneL W c0 (3 - who)) 0 = g := by
        refine ext_geti (by rw [setAll_length, g2.len]) fun b hb => ?_
        rw [setAll_length] at hb
        rw [setAll_get 0 _ _ b goneL_in hb]
        by_cases q : Gone W c0 (3 - who) b
        · rw [if_pos (mem_goneL.2 q), g2.gone b q]
        · rw [if_neg (fun h => q (mem_goneL.1 h)), g2.kept b hb q]
      have hgl := g2.len
      have hnG : ¬ Gone W c0 (3 - who) p := by
        intro h
        have := h.2.1
        rw [hat] at this
        omega
      have hgp : geti g (p : Int) = who := by rw [g2.kept p (by omega) hnG, hat]
      have Bg : Dm W H g := B0.of_len hgl
      rw [hfin, group_p Bg (by omega) hgp (by omega), groupOf_r Bg (by omega) hgp, Option.bind_some, Option.bind_some, goneL_len]
      simp only
      by_cases hl : (((libL W g who p).length : Int) == 0) = true
      · rw [if_pos hl]
        exact ⟨_, rfl, rfl, by simp⟩
      · rw [if_neg hl]
        refine ⟨_, rfl, rfl, fun _ => ⟨rfl, rfl, by simp only; omega, fun b hb => ?_⟩⟩
        simp only at hb ⊢
        by_cases q : Gone W c0 (3 - who) b
        · rw [g2.gone b q]; omega
        · rw [g2.kept b (by omega) q, ← hc0, geti_set' (by omega) (by omega)]
          split
          · omega
          · exact V b (by omega)
    · have n0 : (geti c (p : Int) != 0) = true := by simpa using hz
      rw [if_pos n0, if_pos n0]
      exact ⟨_, rfl, rfl, by simp⟩
  · rw [if_pos (show (decide (place < 0) || decide ((c.length : Int) ≤ place)) = true by rw [Bool.or_eq_true, decide_eq_true_eq, decide_eq_true_eq]; omega), if_pos (show (!(decide (0 ≤ place) && decide (place ≤ (c.length : Int) - 1))) = true by rw [Bool.not_eq_true', Bool.and_eq_false_iff, decide_eq_false_iff_not, decide_eq_false_iff_not]; omega)]
    exact ⟨_, rfl, rfl, by simp⟩


/-- A place's sign. -/
def sg (x : Int) : Int := IntKind.wrap .u8 (w64 (48 + x))
/-- A board's name. -/
def nmB (g : List Int) : List UInt8 := b8 (g.map sg)
theorem sg_inj {x y : Int} (hx : 0 ≤ x ∧ x ≤ 2) (hy : 0 ≤ y ∧ y ≤ 2) (h : UInt8.ofNat (sg x).toNat = UInt8.ofNat (sg y).toNat) : x = y := by
  have e0 : UInt8.ofNat (sg 0).toNat = 48 := by decide
  have e1 : UInt8.ofNat (sg 1).toNat = 49 := by decide
  have e2 : UInt8.ofNat (sg 2).toNat = 50 := by decide
  rcases (show x = 0 ∨ x = 1 ∨ x = 2 by omega) with rfl | rfl | rfl <;> rcases (show y = 0 ∨ y = 1 ∨ y = 2 by omega) with rfl | rfl | rfl <;> first
    | rfl
    | (simp only [e0, e1, e2] at h; exact absurd h (by decide))
theorem nmB_inj {a b : List Int} (ha : VB a) (hb : VB b) (hl : a.length = b.length) (h : nmB a = nmB b) : a = b := by
  refine ext_geti hl fun i hi => ?_
  have h2 := congrArg (fun l => l[i]?) h
  simp only [nmB, b8, List.getElem?_map, get_geti hi, get_geti (l := b) (i := i) (by omega), Option.map_some] at h2
  exact sg_inj (ha i hi) (hb i (by omega)) (Option.some.inj h2)

theorem fill_set (g : List Int) (h : Int → Int) {i : Nat} (hi : i < g.length) : ((g.take i).map h ++ List.replicate (g.length - i) (0 : Int)).set i (h (geti g (i : Int))) = (g.take (i + 1)).map h ++ List.replicate (g.length - (i + 1)) (0 : Int) := by
  have hl : ((g.take i).map h).length = i := by simp; omega
  rw [List.set_append_right _ _ (by omega), hl, Nat.sub_self, show g.length - i = (g.length - (i + 1)) + 1 by omega, List.replicate_succ, List.set_cons_zero, List.take_add_one, get_geti hi]
  simp

theorem add_p (s : List (List UInt8 × Int)) (W H : Int) {g : List Int} (hg : g.length ≤ 300) : stones_seen_add_m s W H g = some (mget 0 (nmB g) (mput (nmB g) (w64 (mget 0 (nmB g) s + 1)) s), mput (nmB g) (w64 (mget 0 (nmB g) s + 1)) s) := by
  unfold stones_seen_add_m
  rw [asrt_pos (by unfold bigN; omega), Int.toNat_natCast]
  have key : loop (stones_seen_add_L1 g) (List.replicate g.length 0, 0) = some (g.map sg) := by
    refine loop_from (fun i => ((g.take i).map sg ++ List.replicate (g.length - i) (0 : Int), (i : Int))) g.length (by simp) (fun i hi => ?_) ?_
    · simp only [stones_seen_add_L1]
      rw [if_pos (by simp; omega)]
      unfold stones_seen_add_J2 stones_seen_add_J3
      rw [asrt_pos (by omega), asrt_pos (by omega), Int.toNat_natCast, w64_of (x := (i : Int) + 1) (by omega)]
      have := fill_set g sg hi
      unfold sg at this ⊢
      rw [this]
      rfl
    · simp only [stones_seen_add_L1]
      rw [if_neg (by simp), List.take_length]
      simp
  rw [key, Option.bind_some]
  rfl
end Go.Proofs.Ytjfloofoobllaaa
