/-
  Stones: a play, move by move, by both texts.
-/
import Derived.Test.YtjfloofoobllaaaSPa
namespace Go.Proofs.Ytjfloofoobllaaa
open Go Go.GL Go.RowKit

/-- Two loops in step that may both stop on the way. -/
theorem both_loop {σ S1 R1 S2 R2 : Type} {step1 : S1 → Option (St S1 R1)} {step2 : S2 → Option (St S2 R2)} (mk1 : σ → Nat → S1) (mk2 : σ → Nat → S2) (I : Nat → σ → Prop) (Post : R1 → R2 → Prop) (n : Nat) (s : σ) (hI : I 0 s)
    (h2 : ∀ i s, i < n → I i s → (∃ s', step1 (mk1 s i) = some (.next (mk1 s' (i + 1))) ∧ step2 (mk2 s i) = some (.next (mk2 s' (i + 1))) ∧ I (i + 1) s') ∨ (∃ r1 r2, step1 (mk1 s i) = some (.done r1) ∧ step2 (mk2 s i) = some (.done r2) ∧ Post r1 r2))
    (h3 : ∀ s, I n s → ∃ r1 r2, step1 (mk1 s n) = some (.done r1) ∧ step2 (mk2 s n) = some (.done r2) ∧ Post r1 r2) : ∃ r1 r2, loop step1 (mk1 s 0) = some r1 ∧ loop step2 (mk2 s 0) = some r2 ∧ Post r1 r2 := by
  have key : ∀ m k s, k + m = n → I k s → ∃ r1 r2, loop step1 (mk1 s k) = some r1 ∧ loop step2 (mk2 s k) = some r2 ∧ Post r1 r2 := by
    intro m
    induction m with
    | zero =>
      intro k s hk hI
      obtain rfl : k = n := by omega
      obtain ⟨r1, r2, a, b, hp⟩ := h3 s hI
      exact ⟨r1, r2, loop_done a, loop_done b, hp⟩
    | succ m ih =>
      intro k s hk hI
      rcases h2 k s (by omega) hI with ⟨s', a, b, hI'⟩ | ⟨r1, r2, a, b, hp⟩
      · obtain ⟨r1, r2, c, d, hp⟩ := ih (k + 1) s' (by omega) hI'
        exact ⟨r1, r2, loop_next' a c, loop_next' b d, hp⟩
      · exact ⟨r1, r2, loop_done a, loop_done b, hp⟩
  exact key n 0 s (by omega) hI

section
variable {W H : Int}

theorem sameGrid_eq (a1 a2 : Int) {a3 : List Int} (b1 b2 : Int) (b3 : List Int) (ha : a3.length ≤ 17592186044416) : gameroomref_SameGrid_m a1 a2 a3 b1 b2 b3 = some (decide ((a1, a2, a3) = (b1, b2, b3))) := by
  unfold gameroomref_SameGrid_m
  by_cases h : a1 = b1 ∧ a2 = b2
  · obtain ⟨rfl, rfl⟩ := h
    simp only [beq_self_eq_true, Bool.and_self, if_true]
    rw [sameInts_r ha]
    simp
  · have h9 : ((a1 == b1) && (a2 == b2)) = false := by
      rw [Bool.and_eq_false_iff]
      simp only [beq_eq_false_iff_ne]
      by_cases q : a1 = b1
      · exact .inr fun r => h ⟨q, r⟩
      · exact .inl q
    rw [h9]
    simp only [Bool.false_eq_true, if_false, Option.bind_some, Bool.false_and]
    congr 1
    symm
    rw [decide_eq_false_iff_not]
    intro q
    injection q with q1 q2
    injection q2 with q2 q3
    exact h ⟨q1, q2⟩

abbrev Brd3 := Int × Int × List Int

theorem seen_scan {bs : List Brd3} {nx : List Int} (hb : ∀ b ∈ bs, b.2.2.length ≤ 300) (hl : bs.length ≤ 1000) (e1 : Int) :
    loop (gameroomref_PlayStones_L2 bs W H nx) (e1, 0) = some (if e1 = 0 ∧ (W, H, nx) ∈ bs then 8 else e1) := by
  by_cases he : e1 = 0
  · subst he
    have key := count_loop (step := gameroomref_PlayStones_L2 bs W H nx) (fun (e : Int) (i : Nat) => (e, (i : Int)))
      (fun n e => e = 0 ∧ (∀ k : Nat, k < n → bs[k]? ≠ some (W, H, nx)) ∨ e = 8 ∧ (W, H, nx) ∈ bs) (fun r => r = if (W, H, nx) ∈ bs then 8 else 0) bs.length 0 (.inl ⟨rfl, fun k hk => by omega⟩) (by
        rintro i e hi (⟨rfl, h⟩ | ⟨rfl, h⟩)
        · left
          have hg : bs[i]? = some (getd zP24 bs (i : Int)) := by
            unfold getd
            rw [Int.toNat_natCast, List.getD_eq_getElem?_getD, List.getElem?_eq_getElem hi]
            rfl
          have hin := List.mem_of_getElem? hg
          simp only [gameroomref_PlayStones_L2]
          rw [if_pos (by simp; omega)]
          unfold gameroomref_PlayStones_J9
          rw [asrt_pos (by omega), sameGrid_eq _ _ _ _ _ (by have := hb _ hin; omega), Option.bind_some]
          unfold gameroomref_PlayStones_J10
          rw [w64_of (x := (i : Int) + 1) (by omega)]
          by_cases q : getd zP24 bs (i : Int) = (W, H, nx)
          · rw [if_pos (decide_eq_true q)]
            exact ⟨8, rfl, .inr ⟨rfl, q ▸ hin⟩⟩
          · rw [if_neg (by rw [decide_eq_true_eq]; exact q)]
            refine ⟨0, rfl, .inl ⟨rfl, fun k hk => ?_⟩⟩
            by_cases hk' : k < i
            · exact h k hk'
            · obtain rfl : k = i := by omega
              rw [hg]
              exact fun z => q (Option.some.inj z)
        · right
          simp only [gameroomref_PlayStones_L2]
          rw [if_neg (by simp)]
          exact ⟨_, rfl, by rw [if_pos h]⟩) (by
        rintro e (⟨rfl, h⟩ | ⟨rfl, h⟩)
        · simp only [gameroomref_PlayStones_L2]
          rw [if_neg (by simp)]
          refine ⟨_, rfl, ?_⟩
          rw [if_neg]
          intro hin
          obtain ⟨k, hk⟩ := List.mem_iff_getElem?.1 hin
          exact h k (List.getElem?_eq_some_iff.1 hk).1 hk
        · simp only [gameroomref_PlayStones_L2]
          rw [if_neg (by simp)]
          exact ⟨_, rfl, by rw [if_pos h]⟩)
    obtain ⟨r, hr, hp⟩ := key
    subst hp
    simpa using hr
  · rw [if_neg (fun h => he h.1)]
    refine loop_done ?_
    simp only [gameroomref_PlayStones_L2]
    rw [if_neg (by simp [he])]

/-- What is known of a play: its board, what was taken, the names that were, the boards, the passes. -/
structure PI (W H : Int) (c l : List Int) (i : Nat) (s : List Int × List Int × List (List UInt8 × Int) × List Brd3 × Int) : Prop where
  len : s.1.length = c.length
  vb : VB s.1
  two : s.2.1.length = 2
  seen : ∀ x : List Int, VB x → x.length = c.length → mget 0 (nmB x) s.2.2.1 = if (W, H, x) ∈ s.2.2.2.1 then 1 else 0
  bl : s.2.2.2.1.length ≤ i + 1
  bs : ∀ b ∈ s.2.2.2.1, b.2.2.length ≤ 300
  pass : s.2.2.2.2 = 0 ∧ (i = 0 ∨ geti l ((i : Int) - 1) ≠ -1) ∨ s.2.2.2.2 = 1 ∧ 1 ≤ i ∧ geti l ((i : Int) - 1) = -1 ∧ (i = 1 ∨ geti l ((i : Int) - 2) ≠ -1) ∨ s.2.2.2.2 = 2 ∧ 2 ≤ i ∧ geti l ((i : Int) - 1) = -1 ∧ geti l ((i : Int) - 2) = -1

theorem play_both {c l : List Int} (B : Dm W H c) (V : VB c) (hl : l.length ≤ 200) : ∃ X, stones_Play_J1 W H c l = some X ∧ gameroomref_PlayStones_m W H c l = some X ∧ X.2.2.1.length ≤ 300 := by
  have hsm := B.small
  unfold stones_Play_J1 gameroomref_PlayStones_m slices_Clone_m slices_Clone_J1 gameroomref_GridOf_m gameroomref_Ints_m
  rw [asrt_pos (by unfold bigN; omega), List.nil_append]
  simp only [Option.bind_some]
  rw [add_p _ _ _ hsm, Option.bind_some]
  have key := both_loop (step1 := stones_Play_L1 l) (step2 := gameroomref_PlayStones_L1 l)
    (fun (s : List Int × List Int × List (List UInt8 × Int) × List Brd3 × Int) (i : Nat) => (W, H, s.1, s.2.1, s.2.2.1, s.2.2.2.2, (i : Int)))
    (fun s i => (s.2.2.2.1, s.2.1, W, H, s.1, (i : Int)))
    (PI W H c l) (fun r1 r2 => ∃ X, stones_Play_K1 l r1 = some X ∧ gameroomref_PlayStones_K1 l r2 = some X ∧ X.2.2.1.length ≤ 300) l.length
    (c, List.replicate 2 0, mput (nmB c) (w64 (mget 0 (nmB c) [] + 1)) [], [(W, H, c)], 0)
    ⟨rfl, V, rfl, fun x hx hxl => by
      simp only
      rw [mget_mput]
      by_cases q : nmB x = nmB c
      · have := nmB_inj hx V hxl q
        subst this
        rw [if_pos rfl, if_pos (by simp)]
        rfl
      · rw [if_neg q, if_neg]
        · rfl
        · intro h
          simp only [List.mem_singleton] at h
          injection h with _ h
          injection h with _ h
          exact q (by rw [h]), by simp, fun b hb => by
      simp only [List.mem_singleton] at hb
      subst hb
      exact hsm, .inl ⟨rfl, .inl rfl⟩⟩ (by
    rintro i ⟨g, tk, mp, bs, ps⟩ hi hI
    obtain ⟨h1, h2, h3, h4, h5, h6, h7⟩ := hI
    simp only at h1 h2 h3 h4 h5 h6 h7
    simp only [stones_Play_L1, gameroomref_PlayStones_L1]
    rw [if_pos (by simp; omega), if_pos (by simp; omega)]
    unfold stones_Play_J5 gameroomref_PlayStones_J2
    rw [asrt_pos (by omega), asrt_pos (fun hc => by
      rw [decide_eq_true_eq] at hc
      rw [w64_of (by omega)]; omega), asrt_pos (fun hc => by
      rw [Bool.and_eq_true, decide_eq_true_eq] at hc
      rw [w64_of (by omega)]; omega)]
    by_cases hp2 : ps = 2
    · right
      rcases h7 with h7 | h7 | h7
      · omega
      · omega
      rw [if_pos (by rw [hp2]; rfl), if_pos (by
        rw [w64_of (by omega), w64_of (by omega), h7.2.2.1, h7.2.2.2]
        simp; omega)]
      unfold stones_Play_J8 gameroomref_PlayStones_J5
      exact ⟨_, _, rfl, rfl, _, rfl, rfl, by simp only; omega⟩
    · rw [if_neg (by rw [beq_iff_eq]; exact hp2), if_neg (by
        rw [Bool.and_eq_true, Bool.and_eq_true, decide_eq_true_eq, beq_iff_eq, beq_iff_eq]
        rintro ⟨⟨q1, q2⟩, q3⟩
        rw [w64_of (by omega)] at q2 q3
        rcases h7 with h7 | h7 | h7
        · rcases h7.2 with h7 | h7
          · omega
          · exact h7 q2
        · rcases h7.2.2.2 with h7 | h7
          · omega
          · exact h7 q3
        · omega)]
      unfold stones_Play_J7 gameroomref_PlayStones_J4
      rw [asrt_pos (by omega)]
      by_cases hm1 : geti l (i : Int) = -1
      · left
        rw [if_pos (by rw [hm1]; rfl), if_pos (by rw [hm1]; rfl)]
        unfold stones_Play_J6 gameroomref_PlayStones_J3
        refine ⟨(g, tk, mp, bs, ps + 1), ?_, ?_, ⟨h1, h2, h3, h4, by simp only; omega, h6, ?_⟩⟩
        · simp only
          rw [w64_of (x := (i : Int) + 1) (by omega), w64_of (x := ps + 1) (by rcases h7 with h7 | h7 | h7 <;> omega)]
          rfl
        · simp only
          rw [w64_of (x := (i : Int) + 1) (by omega)]
          rfl
        · simp only
          have e1 : ((i + 1 : Nat) : Int) - 1 = (i : Int) := by omega
          have e2 : ((i + 1 : Nat) : Int) - 2 = (i : Int) - 1 := by omega
          rw [e1, e2]
          rcases h7 with h7 | h7 | h7
          · exact .inr (.inl ⟨by omega, by omega, hm1, by
              rcases h7.2 with h8 | h8
              · exact .inl (by omega)
              · exact .inr h8⟩)
          · exact .inr (.inr ⟨by omega, by omega, hm1, h7.2.2.1⟩)
          · omega
      · rw [if_neg (by rw [beq_iff_eq]; exact hm1), if_neg (by rw [beq_iff_eq]; exact hm1)]
        unfold stones_Play_J9 gameroomref_PlayStones_J6
        have hb1 : bAnd (i : Int) 1 = ((i % 2 : Nat) : Int) := band1 i (by omega)
        have ht1 : Int.tmod (i : Int) 2 = ((i % 2 : Nat) : Int) := tmod_nat i 2
        have hB : Dm W H g := B.of_len h1
        rw [asrt_pos (by omega), hb1, ht1, w64_of (x := 1 + ((i % 2 : Nat) : Int)) (by omega)]
        obtain ⟨r, r1, r2, r3⟩ := put_more hB h2 (who := 1 + ((i % 2 : Nat) : Int)) (by omega) (geti l (i : Int))
        rw [r1, r2, Option.bind_some, Option.bind_some]
        unfold gameroomref_PlayStones_J7
        rw [seen_scan (W := r.1) (H := r.2.1) (nx := r.2.2.1) h6 (by omega), Option.bind_some]
        obtain ⟨rw_, rh, rc, rn, re⟩ := r
        simp only at r1 r2 r3 ⊢
        by_cases he : re = 0
        · subst he
          obtain ⟨hw9, hh9, hc9, hv9⟩ := r3 rfl
          subst hw9; subst hh9
          simp only [beq_self_eq_true, if_true, Bool.true_and, true_and]
          rw [add_p _ _ _ (by omega), Option.bind_some]
          simp only
          have hk := h4 rc hv9 (by omega)
          rw [mget_mput, if_pos rfl, hk]
          by_cases hin : (rw_, rh, rc) ∈ bs
          · right
            rw [if_pos hin, if_pos hin]
            unfold stones_Play_J11 gameroomref_PlayStones_K2 stones_Play_J10 gameroomref_PlayStones_J8
            simp only
            unfold stones_Play_J13 gameroomref_PlayStones_J12
            exact ⟨_, _, rfl, rfl, _, rfl, rfl, by simp only; omega⟩
          · left
            rw [if_neg hin, if_neg hin]
            unfold stones_Play_J11 gameroomref_PlayStones_K2 stones_Play_J10 gameroomref_PlayStones_J8
            simp only
            rw [if_neg (show ¬ (decide (1 < w64 (0 + 1))) = true by decide)]
            rw [if_neg (show ¬ ((0 : Int) != 0) = true by decide), if_neg (show ¬ ((0 : Int) != 0) = true by decide)]
            unfold stones_Play_J12 gameroomref_PlayStones_J11 stones_Play_J6 gameroomref_PlayStones_J3
            simp only [hb1, ht1]
            rw [asrt_pos (by omega), asrt_pos (by omega), asrt_pos (by omega), asrt_pos (by unfold bigK; omega), asrt_pos (by omega), asrt_pos (by omega), asrt_pos (by omega)]
            refine ⟨(rc, tk.set (Int.toNat ((i % 2 : Nat) : Int)) (w64 (geti tk ((i % 2 : Nat) : Int) + rn)), mput (nmB rc) (w64 (0 + 1)) mp, bs ++ [(rw_, rh, rc)], 0), ?_, ?_, ⟨by simp only; omega, hv9, by simp only [List.length_set]; exact h3, ?_, by simp; omega, ?_, ?_⟩⟩
            · simp only
              rw [w64_of (x := (i : Int) + 1) (by omega)]
              rfl
            · simp only
              rw [w64_of (x := (i : Int) + 1) (by omega)]
              rfl
            · intro x hx hxl
              simp only
              rw [mget_mput]
              by_cases q : nmB x = nmB rc
              · have := nmB_inj hx hv9 (by omega) q
                subst this
                rw [if_pos rfl, if_pos (by simp)]
                rfl
              · rw [if_neg q, h4 x hx hxl]
                have : (rw_, rh, x) ∈ bs ++ [(rw_, rh, rc)] ↔ (rw_, rh, x) ∈ bs := by
                  rw [List.mem_append, List.mem_singleton]
                  constructor
                  · rintro (h | h)
                    · exact h
                    · injection h with _ h
                      injection h with _ h
                      exact absurd (by rw [h]) q
                  · exact .inl
                simp only [this]
            · intro b hb
              simp only [List.mem_append, List.mem_singleton] at hb
              rcases hb with hb | rfl
              · exact h6 b hb
              · simp only; omega
            · left
              simp only
              refine ⟨trivial, .inr ?_⟩
              rw [show ((i + 1 : Nat) : Int) - 1 = (i : Int) by omega]
              exact hm1
        · right
          have hbe : (re == 0) = false := by rw [beq_eq_false_iff_ne]; exact he
          have hne : (re != 0) = true := by rw [bne_iff_ne]; exact he
          rw [hbe]
          simp only [Bool.false_and, Bool.false_eq_true, if_false, he, false_and]
          unfold stones_Play_J11 gameroomref_PlayStones_K2 stones_Play_J10 gameroomref_PlayStones_J8
          simp only [hne, if_true, Bool.false_eq_true, if_false]
          unfold stones_Play_J13 gameroomref_PlayStones_J12
          exact ⟨_, _, rfl, rfl, _, rfl, rfl, by simp only; omega⟩) (by
    rintro ⟨g, tk, mp, bs, ps⟩ hI
    simp only [stones_Play_L1, gameroomref_PlayStones_L1]
    rw [if_neg (by simp), if_neg (by simp)]
    have h1 := hI.len
    simp only at h1
    exact ⟨_, _, rfl, rfl, _, rfl, rfl, by simp only; omega⟩)
  obtain ⟨r1, r2, k1, k2, X, x1, x2, x3⟩ := key
  simp only [Int.natCast_zero] at k1 k2
  simp only
  rw [k1, k2]
  exact ⟨X, x1, x2, x3⟩
end
end Go.Proofs.Ytjfloofoobllaaa
