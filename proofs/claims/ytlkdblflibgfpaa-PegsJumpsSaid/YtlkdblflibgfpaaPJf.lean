/-
  Pegs: jumps are done alike, one behind the other.
-/
import Derived.Test.YtlkdblflibgfpaaPJe
namespace Go.Proofs.Ytlkdblflibgfpaa
open Go Go.GL

theorem fidx_cases {α : Type} (p : α → Bool) (l : List α) : (∃ (i : Nat) (x : α), fidx p l = (i : Int) ∧ l[i]? = some x ∧ p x = true) ∨ (fidx p l = -1 ∧ ∀ x ∈ l, p x = false) := by
  unfold fidx
  cases h : l.findIdx? p with
  | none =>
    rw [List.findIdx?_eq_none_iff] at h
    exact .inr ⟨rfl, h⟩
  | some i =>
    obtain ⟨h1, h2, _⟩ := List.findIdx?_eq_some_iff_getElem.1 h
    exact .inl ⟨i, l[i], rfl, List.getElem?_eq_getElem h1, h2⟩

section
variable {W H : Nat} {c d : List Int}

def hitJ (d : List Int) (f t into : Int) (j : Int × Int × Int) : Bool := ((j.1 == f) && ((j.2.2 == t) && ((0 : Int) == into))) && canC d j

theorem do1_p {n : Nat} (hn : d.length = n) (f t into g1 g2 : Int) {j : Int × Int × Int} (h1 : 0 ≤ j.1 ∧ j.1 < n) (h2 : 0 ≤ j.2.1 ∧ j.2.1 < n) (h3 : 0 ≤ j.2.2 ∧ j.2.2 < n) : pegs_Do_1_m j.1 j.2.1 j.2.2 f t into g1 g2 d = some (hitJ d f t into j) := by
  unfold pegs_Do_1_m pegs_jump_move_m hitJ
  simp only [Option.bind_some]
  cases hb : ((j.1 == f) && ((j.2.2 == t) && ((0 : Int) == into))) with
  | true => rw [if_pos rfl, can_p hn h1 h2 h3, Option.bind_some]
  | false => rw [if_neg (by simp), Option.bind_some]; simp

theorem find_p (B : Dm W H c) (hd : d.length = c.length) (f t into g1 g2 : Int) : pegs_jump_3_m (allJ W H c) f t into g1 g2 d = some (fidx (hitJ d f t into) (allJ W H c)) := by
  have hl := allJ_len B
  unfold pegs_jump_3_m
  rw [search_loop (l := allJ W H c) (hitJ d f t into) (fun i => Fl.ret (i : Int)) (Fl.go ()) ?_ ?_ ?_]
  · unfold fidx
    cases (allJ W H c).findIdx? (hitJ d f t into) <;> rfl
  · intro i x hx hp
    have hb := idx_bd hx
    have hk := allJ_bd (n := c.length) (len_nat B) (List.mem_of_getElem? hx)
    simp only [pegs_jump_3_L1]
    rw [if_pos (by simpa using hb.2)]
    unfold pegs_jump_3_J2
    rw [asrt_pos hb, getd_some hx, do1_p hd f t into g1 g2 hk.1 hk.2.1 hk.2.2, Option.bind_some, hp]
    rfl
  · intro i x hx hp
    have hb := idx_bd hx
    have hk := allJ_bd (n := c.length) (len_nat B) (List.mem_of_getElem? hx)
    simp only [pegs_jump_3_L1]
    rw [if_pos (by simpa using hb.2)]
    unfold pegs_jump_3_J2 pegs_jump_3_J3
    rw [asrt_pos hb, getd_some hx, do1_p hd f t into g1 g2 hk.1 hk.2.1 hk.2.2, Option.bind_some, hp, if_neg (by simp), w64_succ (by omega)]
  · simp only [pegs_jump_3_L1]
    exact if_neg (by simp)

/-- The walls stand as they stood. -/
structure Wl (c d : List Int) : Prop where
  len : d.length = c.length
  wall : ∀ i : Nat, i < c.length → (geti d i = 2 ↔ geti c i = 2)

theorem ok_walls (h : Wl c d) {a m b : Int} (ha : 0 ≤ a ∧ a < c.length) (hm : 0 ≤ m ∧ m < c.length) (hb : 0 ≤ b ∧ b < c.length) (hk : okJ d a m b = true) : okJ c a m b = true := by
  have h1 := h.wall a.toNat (by omega)
  have h2 := h.wall m.toNat (by omega)
  have h3 := h.wall b.toNat (by omega)
  rw [show ((a.toNat : Nat) : Int) = a by omega] at h1
  rw [show ((m.toNat : Nat) : Int) = m by omega] at h2
  rw [show ((b.toNat : Nat) : Int) = b by omega] at h3
  unfold okJ at hk ⊢
  simp only [Bool.and_eq_true, bne_iff_ne] at hk ⊢
  exact ⟨⟨fun q => hk.1.1 (h1.2 q), fun q => hk.1.2 (h2.2 q)⟩, fun q => hk.2 (h3.2 q)⟩

/-- A jump is found where the document says that it can be made. -/
theorem hit_iff (B : Dm W H c) (D : Dm W H d) (hw : Wl c d) (f t into : Int) : ∃ r : Bool, gameroomref_JumpCan_m W H d f t = some r ∧ ((∃ j ∈ allJ W H c, hitJ d f t into j = true) ↔ (into = 0 ∧ r = true)) := by
  by_cases hin : 0 ≤ f ∧ f < d.length ∧ 0 ≤ t ∧ t < d.length
  · obtain ⟨a, rfl⟩ : ∃ a : Nat, f = a := ⟨f.toNat, by omega⟩
    obtain ⟨b, rfl⟩ : ∃ b : Nat, t = b := ⟨t.toNat, by omega⟩
    have ha : a < d.length := by omega
    have hb : b < d.length := by omega
    refine ⟨canB W d a b, jumpCan_in D ha hb, ?_⟩
    constructor
    · rintro ⟨j, hj, hh⟩
      obtain ⟨a', b', _, _, hg, _, rfl⟩ := allJ_mem.1 hj
      unfold hitJ at hh
      simp only [Bool.and_eq_true, beq_iff_eq] at hh
      have e1 : a' = a := by have := hh.1.1; unfold midJ at this; simp only at this; omega
      have e2 : b' = b := by have := hh.1.2.1; unfold midJ at this; simp only at this; omega
      subst e1 e2
      refine ⟨hh.1.2.2.symm, ?_⟩
      unfold canB
      rw [hg, hh.2]; rfl
    · rintro ⟨rfl, hcan⟩
      unfold canB at hcan
      rw [Bool.and_eq_true] at hcan
      have hl := len_nat B
      have hlw := hw.len
      have hmm := mid_in D ha hb
      refine ⟨midJ ((a : Int), (b : Int)), allJ_mem.2 ⟨a, b, by omega, by omega, hcan.1, ok_walls hw (by omega) (by omega) (by omega) (can_ok hcan.2), rfl⟩, ?_⟩
      unfold hitJ
      rw [hcan.2]
      simp [midJ]
  · refine ⟨false, jumpCan_out D hin, ?_⟩
    constructor
    · rintro ⟨j, hj, hh⟩
      have hk := allJ_bd (n := c.length) (len_nat B) hj
      unfold hitJ at hh
      simp only [Bool.and_eq_true, beq_iff_eq] at hh
      have := hw.len
      omega
    · rintro ⟨_, h⟩; cases h

theorem geo_ne (B : Dm W H c) {a b : Nat} (hg : geoJ W a b = true) : ((a : Int) + b) / 2 ≠ a ∧ ((a : Int) + b) / 2 ≠ b ∧ (a : Int) ≠ b := by
  obtain ⟨e, he, h1, h2⟩ := geoJ_iff.1 hg
  have hW := B.w
  have ha2 : ((a / W : Nat) : Int) * W + ((a % W : Nat) : Int) = a := by
    have := Nat.div_add_mod a W
    rw [Nat.mul_comm] at this
    rw [← Int.natCast_mul, ← Int.natCast_add, this]
  have hb2 : ((b / W : Nat) : Int) * W + ((b % W : Nat) : Int) = b := by
    have := Nat.div_add_mod b W
    rw [Nat.mul_comm] at this
    rw [← Int.natCast_mul, ← Int.natCast_add, this]
  rw [h1, h2, Int.add_mul, Int.mul_assoc] at hb2
  generalize ((a / W : Nat) : Int) * W = u at ha2 hb2
  generalize ((a % W : Nat) : Int) = v at ha2 hb2
  rcases mem_dirs.1 he with ⟨e1, e2⟩ | ⟨e1, e2⟩ | ⟨e1, e2⟩ | ⟨e1, e2⟩ <;> rw [e1, e2] at hb2 <;> omega

/-- The places behind a jump. -/
def doneJ (d : List Int) (a b : Nat) : List Int := ((d.set a 0).set ((a + b) / 2) 0).set b 1

theorem turn_p (D : Dm W H d) {a b : Nat} (ha : a < d.length) (hb : b < d.length) (hc : canB W d a b = true) : pegs_jump_turn_2_m (a : Int) (((a : Int) + b) / 2) b d = some (doneJ d a b) := by
  unfold canB at hc
  rw [Bool.and_eq_true] at hc
  obtain ⟨hg, hcan⟩ := hc
  obtain ⟨n1, n2, n3⟩ := geo_ne D hg
  have hmm := mid_in D ha hb
  unfold canC midJ at hcan
  simp only [Bool.and_eq_true, beq_iff_eq] at hcan
  obtain ⟨⟨c1, c2⟩, c3⟩ := hcan
  have em : ((a : Int) + b) / 2 = (((a + b) / 2 : Nat) : Int) := by omega
  generalize hm : (a + b) / 2 = m at em
  rw [em] at c2 n1 n2 hmm ⊢
  have t0 : geti ([(a : Int), (m : Int), (b : Int)] : List Int) ((0 : Nat) : Int) = a := rfl
  have t1 : geti ([(a : Int), (m : Int), (b : Int)] : List Int) ((1 : Nat) : Int) = m := rfl
  have t2 : geti ([(a : Int), (m : Int), (b : Int)] : List Int) ((2 : Nat) : Int) = b := rfl
  have s0 : pegs_jump_turn_2_L1 a m b d (d, ((0 : Nat) : Int)) = some (.next (d.set a 0, ((1 : Nat) : Int))) := by
    simp only [pegs_jump_turn_2_L1]
    rw [if_pos (by decide)]
    unfold pegs_jump_turn_2_J2 pegs_jump_turn_2_J3
    rw [t0, asrt_pos (by decide), asrt_pos (by omega), asrt_pos (by omega), c1, show bXor 1 1 = 0 by decide, Int.toNat_natCast]
    rfl
  have s1 : pegs_jump_turn_2_L1 a m b d (d.set a 0, ((1 : Nat) : Int)) = some (.next ((d.set a 0).set m 0, ((2 : Nat) : Int))) := by
    simp only [pegs_jump_turn_2_L1]
    rw [if_pos (by decide)]
    unfold pegs_jump_turn_2_J2 pegs_jump_turn_2_J3
    rw [t1, asrt_pos (by decide), asrt_pos (by omega), asrt_pos (by omega), geti_set' (by omega) ha, if_neg n1, c2, show bXor 1 1 = 0 by decide, Int.toNat_natCast]
    rfl
  have s2 : pegs_jump_turn_2_L1 a m b d ((d.set a 0).set m 0, ((2 : Nat) : Int)) = some (.next (((d.set a 0).set m 0).set b 1, ((3 : Nat) : Int))) := by
    simp only [pegs_jump_turn_2_L1]
    rw [if_pos (by decide)]
    unfold pegs_jump_turn_2_J2 pegs_jump_turn_2_J3
    rw [t2, asrt_pos (by decide), asrt_pos (by omega), asrt_pos (by omega), geti_set' (by omega) (by rw [List.length_set]; omega), if_neg (fun q => n2 q.symm), geti_set' (by omega) ha, if_neg (fun q => n3 q.symm), c3, show bXor 0 1 = 1 by decide, Int.toNat_natCast]
    rfl
  have s3 : pegs_jump_turn_2_L1 a m b d (((d.set a 0).set m 0).set b 1, ((3 : Nat) : Int)) = some (.done (((d.set a 0).set m 0).set b 1)) := by
    simp only [pegs_jump_turn_2_L1]
    exact if_neg (by decide)
  unfold pegs_jump_turn_2_m doneJ
  have := loop_next' s0 (loop_next' s1 (loop_next' s2 (loop_done s3)))
  rw [show ((0 : Nat) : Int) = 0 from rfl] at this
  rw [this, Option.bind_some, hm]
  rfl

theorem done_p (D : Dm W H d) {a b : Nat} (ha : a < d.length) (hb : b < d.length) (into : Int) : gameroomref_JumpDone_m W H d a b into = some ((W : Int), (H : Int), doneJ d a b) := by
  have hl := len_le D
  have hmm := mid_in D ha hb
  have hgo : gameroomref_GridOf_m (W : Int) (H : Int) d = some ((W : Int), (H : Int), d) := by
    unfold gameroomref_GridOf_m gameroomref_Ints_m
    rw [asrt_pos (by unfold bigN; omega)]
    simp
  have hm : w64 (Int.tdiv (w64 ((a : Int) + b)) 2) = (((a + b) / 2 : Nat) : Int) := by
    rw [w64_of (x := (a : Int) + b) (by omega), Int.tdiv_eq_ediv_of_nonneg (by omega), w64_of (by omega)]
    omega
  unfold gameroomref_JumpDone_m
  rw [hgo, Option.bind_some]
  simp only
  rw [hm, asrt_pos (by omega), asrt_pos (by omega), asrt_pos (by omega), Int.toNat_natCast, Int.toNat_natCast, Int.toNat_natCast]
  rfl

theorem done_walls (B : Dm W H d) (hw : Wl c d) {a b : Nat} (ha : a < d.length) (hb : b < d.length) (hc : canB W d a b = true) : Wl c (doneJ d a b) ∧ Dm W H (doneJ d a b) := by
  have hmm := mid_in B ha hb
  have hlen : (doneJ d a b).length = d.length := by unfold doneJ; simp
  refine ⟨⟨by rw [hlen]; exact hw.len, fun i hi => ?_⟩, ⟨B.w, B.h, by rw [hlen]; exact B.len⟩⟩
  unfold canB at hc
  rw [Bool.and_eq_true] at hc
  have hcan := hc.2
  unfold canC midJ at hcan
  simp only [Bool.and_eq_true, beq_iff_eq] at hcan
  have hi2 : i < d.length := by rw [hw.len]; exact hi
  unfold doneJ
  rw [geti_set' (by omega) (by simp; exact hb), geti_set' (by omega) (by simp; omega), geti_set' (by omega) ha, ← hw.wall i hi]
  by_cases e1 : (i : Int) = b
  · rw [if_pos e1, e1, hcan.2]; simp
  · rw [if_neg e1]
    by_cases e2 : (i : Int) = (((a + b) / 2 : Nat) : Int)
    · rw [if_pos e2]
      have : geti d (i : Int) = 1 := by rw [e2, show (((a + b) / 2 : Nat) : Int) = ((a : Int) + b) / 2 by omega]; exact hcan.1.2
      rw [this]; simp
    · rw [if_neg e2]
      by_cases e3 : (i : Int) = a
      · rw [if_pos e3, e3, hcan.1.1]; simp
      · rw [if_neg e3]
end
end Go.Proofs.Ytlkdblflibgfpaa
