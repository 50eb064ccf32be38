/-
  Lines of pictures: the document's count, block by block.
-/
import Derived.Test.YtdjjomghggplpaaNLa
namespace Go.Proofs.Ytdjjomghggplpaa
open Go Go.GL

theorem Ints_p {l : List Int} (hl : l.length ≤ 17592186043904) : gameroomref_Ints_m l = some l := by
  unfold gameroomref_Ints_m
  rw [asrt_pos (by unfold bigN; omega), List.nil_append]

theorem Zw_cases (s : List Int) : Zw s = if (1 : Int) ∈ s then 0 else 1 := by
  induction s with
  | nil => rfl
  | cons c r ih =>
    unfold Zw
    by_cases h : c = 1
    · rw [if_pos h, if_pos (by rw [h]; simp)]
    · rw [if_neg h, ih]
      have : (1 : Int) ∈ c :: r ↔ (1 : Int) ∈ r := by
        rw [List.mem_cons]
        constructor
        · rintro (e | e)
          · exact absurd e.symm h
          · exact e
        · exact Or.inr
      by_cases h2 : (1 : Int) ∈ r
      · rw [if_pos h2, if_pos (this.2 h2)]
      · rw [if_neg h2, if_neg (fun z => h2 (this.1 z))]

/-- What is added to the places' counts by ways behind a beginning. -/
def addF (begun : List Int) (W : Nat) (F : Nat → Nat) (i : Nat) : Int := if i < begun.length then (W : Int) * geti begun (i : Int) else (F (i - begun.length) : Int)

theorem addF_bd {begun : List Int} {W : Nat} {F : Nat → Nat} {i : Nat} (h01 : i < begun.length → 0 ≤ geti begun (i : Int) ∧ geti begun (i : Int) ≤ 1) (hF : ∀ j, F j ≤ W) : 0 ≤ addF begun W F i ∧ addF begun W F i ≤ W := by
  unfold addF
  split
  · rename_i h
    have := h01 h
    rcases (show geti begun (i : Int) = 0 ∨ geti begun (i : Int) = 1 by omega) with z | z <;> rw [z] <;> omega
  · have := hF (i - begun.length); omega

theorem base_p {line begun filled : List Int} (hn : begun.length ≤ line.length) (hl : line.length ≤ 20) (hf : filled.length = line.length) (h01 : ∀ i : Nat, i < begun.length → 0 ≤ geti begun (i : Int) ∧ geti begun (i : Int) ≤ 1)
    (hb : ∀ i : Nat, i < line.length → 0 ≤ geti filled (i : Int) ∧ geti filled (i : Int) ≤ 1000000000) :
    ∃ filled', (loop (gameroomref_lineFill_2_L1 line filled) (begun.length : Int)).bind (gameroomref_lineFill_2_K1 begun filled) = some ((Zw (line.drop begun.length) : Int), filled') ∧ filled'.length = line.length ∧
      ∀ i : Nat, i < line.length → geti filled' (i : Int) = geti filled (i : Int) + addF begun (Zw (line.drop begun.length)) (fun _ => 0) i := by
  have key := count_loop (step := gameroomref_lineFill_2_L1 line filled) (fun (_ : Unit) (k : Nat) => ((begun.length + k : Nat) : Int)) (fun k _ => ∀ j : Nat, begun.length ≤ j → j < begun.length + k → geti line (j : Int) ≠ 1)
    (fun x => ((1 : Int) ∈ line.drop begun.length ∧ x = .ret (0, filled)) ∨ (¬ (1 : Int) ∈ line.drop begun.length ∧ x = .go ())) (line.length - begun.length) () (fun j h1 h2 => by omega) (by
    rintro k - hk hI
    have hj : begun.length + k < line.length := by omega
    have e1 : gameroomref_lineFill_2_L1 line filled ((begun.length + k : Nat) : Int) = gameroomref_lineFill_2_J3 line filled ((begun.length + k : Nat) : Int) := if_pos (decide_eq_true (by omega))
    rw [e1]
    unfold gameroomref_lineFill_2_J3 gameroomref_lineFill_2_J4
    rw [asrt_pos (by omega)]
    by_cases h : geti line ((begun.length + k : Nat) : Int) = 1
    · right
      refine ⟨_, by rw [if_pos (by rw [h]; decide)], Or.inl ⟨?_, rfl⟩⟩
      refine List.mem_iff_getElem?.2 ⟨k, ?_⟩
      rw [List.getElem?_drop, get_geti hj, h]
    · left
      refine ⟨(), by rw [if_neg (by simpa using h), w64_of (by omega)]; rfl, fun j h1 h2 => ?_⟩
      by_cases e : j = begun.length + k
      · rw [e]; exact h
      · exact hI j h1 (by omega)) (by
    rintro - hI
    refine ⟨.go (), by simp only [gameroomref_lineFill_2_L1]; rw [if_neg (by simp; omega)], Or.inr ⟨?_, rfl⟩⟩
    intro hm
    obtain ⟨j, hj⟩ := List.mem_iff_getElem?.1 hm
    rw [List.getElem?_drop] at hj
    have hlt := (List.getElem?_eq_some_iff.1 hj).1
    rw [get_geti hlt] at hj
    exact hI (begun.length + j) (by omega) (by omega) (Option.some.inj hj))
  obtain ⟨x, hx, hp⟩ := key
  rw [Nat.add_zero] at hx
  rw [hx, Option.bind_some, Zw_cases]
  rcases hp with ⟨h1, rfl⟩ | ⟨h1, rfl⟩
  · rw [if_pos h1]
    refine ⟨filled, rfl, hf, fun i hi => ?_⟩
    unfold addF
    split <;> simp
  · rw [if_neg h1]
    simp only [gameroomref_lineFill_2_K1]
    unfold gameroomref_lineFill_2_J2
    have k2 := count_loop (step := gameroomref_lineFill_2_L2 begun filled) (fun (f : List Int) (k : Nat) => (f, (k : Int))) (fun k f => f.length = line.length ∧ ∀ i : Nat, i < line.length → geti f (i : Int) = geti filled (i : Int) + if i < k then geti begun (i : Int) else 0)
      (fun f => f.length = line.length ∧ ∀ i : Nat, i < line.length → geti f (i : Int) = geti filled (i : Int) + if i < begun.length then geti begun (i : Int) else 0) begun.length filled ⟨hf, fun i hi => by rw [if_neg (by omega)]; omega⟩ (by
      rintro k f hk ⟨hfl, hI⟩
      left
      have e1 : gameroomref_lineFill_2_L2 begun filled (f, (k : Int)) = gameroomref_lineFill_2_J6 begun filled f (k : Int) := if_pos (decide_eq_true (by omega))
      rw [e1]
      unfold gameroomref_lineFill_2_J6 gameroomref_lineFill_2_J7
      have b1 := h01 k hk
      have b2 := hb k (by omega)
      have b3 := hI k (by omega)
      rw [if_neg (by omega)] at b3
      rw [asrt_pos (by omega), asrt_pos (by omega), asrt_pos (by omega), Int.toNat_natCast, w64_of (x := geti f (k : Int) + geti begun (k : Int)) (by omega), w64_of (x := (k : Int) + 1) (by omega)]
      refine ⟨_, rfl, by rw [List.length_set, hfl], fun i hi => ?_⟩
      rw [geti_set' (by omega) (by omega)]
      by_cases e : i = k
      · subst e
        rw [if_pos rfl, if_pos (by omega), b3]; omega
      · rw [if_neg (by omega), hI i hi]
        by_cases e2 : i < k
        · rw [if_pos e2, if_pos (by omega)]
        · rw [if_neg e2, if_neg (by omega)]) (by
      rintro f hf2
      exact ⟨f, by simp only [gameroomref_lineFill_2_L2]; rw [if_neg (by simp)], hf2⟩)
    obtain ⟨f, hf1, hf2, hf3⟩ := k2
    have hf1' : loop (gameroomref_lineFill_2_L2 begun filled) (filled, 0) = some f := hf1
    rw [hf1', Option.bind_some]
    refine ⟨f, rfl, hf2, fun i hi => ?_⟩
    rw [hf3 i hi]
    unfold addF
    split
    · simp
    · simp

theorem need_p {cl : List Int} (hc : okC cl) (hcl : cl.length ≤ 17592186043904) (h0 : cl ≠ []) : ∃ k : Nat, loop (gameroomref_lineFill_2_L3 cl) ((w64 ((cl.length : Int) - 1)), 0) = some (k : Int) ∧ k = needN cl ∧ k ≤ 21 * cl.length := by
  have pos : 1 ≤ cl.length := by
    cases cl with
    | nil => exact absurd rfl h0
    | cons _ _ => simp
  -- sums of beginnings
  have sumN : ∀ k : Nat, k ≤ cl.length → 0 ≤ ((cl.take k).foldl (fun s x => s + x) 0) ∧ (cl.take k).foldl (fun s x => s + x) 0 ≤ 20 * (k : Int) := by
    intro k
    induction k with
    | zero => intro _; simp
    | succ k ih =>
      intro hk
      have := ih (by omega)
      have hm : geti cl (k : Int) ∈ cl := List.mem_of_getElem? (get_geti (by omega))
      have hb := hc _ hm
      rw [List.take_add_one, get_geti (by omega)]
      simp only [Option.toList_some, List.foldl_append, List.foldl_cons, List.foldl_nil]
      omega
  have key := count_loop (step := gameroomref_lineFill_2_L3 cl) (fun (_ : Unit) (k : Nat) => ((cl.length : Int) - 1 + (cl.take k).foldl (fun s x => s + x) 0, (k : Int))) (fun _ _ => True) (fun x => x = (cl.length : Int) - 1 + cl.foldl (fun s x => s + x) 0) cl.length () trivial (by
    rintro k - hk -
    left
    have b1 := sumN k (by omega)
    have hm : geti cl (k : Int) ∈ cl := List.mem_of_getElem? (get_geti (by omega))
    have hb := hc _ hm
    have e1 : ∀ x : Int, gameroomref_lineFill_2_L3 cl (x, (k : Int)) = gameroomref_lineFill_2_J9 cl x (k : Int) := fun x => if_pos (decide_eq_true (by omega))
    rw [e1]
    unfold gameroomref_lineFill_2_J9 gameroomref_lineFill_2_J10
    rw [asrt_pos (by omega), w64_of (by omega), w64_of (by omega)]
    refine ⟨(), ?_, trivial⟩
    rw [List.take_add_one, get_geti (by omega)]
    simp only [Option.toList_some, List.foldl_append, List.foldl_cons, List.foldl_nil]
    rw [Int.add_assoc]; rfl) (by
    rintro - -
    refine ⟨_, by simp only [gameroomref_lineFill_2_L3]; rw [if_neg (by simp)], ?_⟩
    rw [List.take_length])
  obtain ⟨x, hx, hp⟩ := key
  have hx' : loop (gameroomref_lineFill_2_L3 cl) (w64 ((cl.length : Int) - 1), 0) = some x := by
    rw [← hx, w64_of (by omega)]
    simp
  have tot := sumN cl.length (Nat.le_refl _)
  rw [List.take_length] at tot
  have hN : ∀ (l : List Int), okC l → ∀ s : Int, l ≠ [] → (l.foldl (fun s x => s + x) s) + (l.length : Int) - 1 = s + (needN l : Int) := by
    intro l
    induction l with
    | nil => intro _ _ h; exact absurd rfl h
    | cons a l ih =>
      intro hc2 s _
      have ha := hc2 a (by simp)
      have hc3 : okC l := fun x hx => hc2 x (by simp [hx])
      unfold needN
      by_cases e : l = []
      · subst e; simp; omega
      · have := ih hc3 (s + a) e
        rw [if_neg e]
        simp only [List.foldl_cons, List.length_cons]
        omega
  have h1 := hN cl hc 0 h0
  refine ⟨needN cl, ?_, rfl, by omega⟩
  rw [hx', hp]
  congr 1
  omega

/-- The next beginning. -/
theorem zeros_p (gap : Nat) (hg : gap ≤ 100) (begun : List Int) (hb : begun.length ≤ 100) : loop (gameroomref_lineFill_2_L5 gap) (begun, 0) = some (begun ++ List.replicate gap 0) := by
  refine loop_from (fun k => (begun ++ List.replicate k 0, (k : Int))) gap (by simp) (fun k hk => ?_) ?_
  · have e1 : ∀ s : List Int, gameroomref_lineFill_2_L5 gap (s, (k : Int)) = gameroomref_lineFill_2_J16 s (k : Int) := fun s => if_pos (decide_eq_true (by omega))
    rw [e1]
    unfold gameroomref_lineFill_2_J16 gameroomref_lineFill_2_J17
    rw [asrt_pos (by unfold bigN; simp; omega), w64_of (by omega), List.append_assoc, ← List.replicate_succ']
    rfl
  · simp only [gameroomref_lineFill_2_L5]
    rw [if_neg (by simp)]

theorem ones_p {line cl : List Int} {L : Nat} (hcl : 0 < cl.length) (hL : geti cl 0 = (L : Int)) (hl : line.length ≤ 20) (b : List Int) (hb : b.length + L ≤ line.length) :
    loop (gameroomref_lineFill_2_L6 line cl) (b, true, 0) = some (b ++ List.replicate L 1, ((line.drop b.length).take L).all (fun x => x != 0)) := by
  refine loop_from (fun k => (b ++ List.replicate k 1, ((line.drop b.length).take k).all (fun x => x != 0), (k : Int))) L (by simp) (fun k hk => ?_) ?_
  · have e1 : ∀ (s : List Int) (o : Bool), gameroomref_lineFill_2_L6 line cl (s, o, (k : Int)) = gameroomref_lineFill_2_J19 line s o (k : Int) := fun s o => by
      show asrt _ _ = _
      rw [asrt_pos (by omega), hL, if_pos (decide_eq_true (by omega))]
    rw [e1]
    unfold gameroomref_lineFill_2_J19 gameroomref_lineFill_2_J20
    have hlen : (b ++ List.replicate k (1 : Int)).length = b.length + k := by simp
    have ht : (line.drop b.length).take (k + 1) = (line.drop b.length).take k ++ [geti line ((b.length + k : Nat) : Int)] := by
      rw [List.take_add_one, List.getElem?_drop, get_geti (by omega)]; rfl
    rw [asrt_pos (by intro _; rw [hlen]; omega), asrt_pos (by rw [hlen]; unfold bigN; omega), w64_of (by omega), List.append_assoc, ← List.replicate_succ', ht, List.all_append, hlen]
    simp
  · show asrt _ _ = _
    rw [asrt_pos (by omega), hL, if_neg (by simp)]

theorem fill_F {line : List Int} (hl : line.length ≤ 20) : ∀ (N : Nat) (cl begun filled : List Int), cl.length < N → okC cl → cl.length ≤ 17592186043904 → begun.length ≤ line.length → filled.length = line.length →
    (∀ i : Nat, i < begun.length → 0 ≤ geti begun (i : Int) ∧ geti begun (i : Int) ≤ 1) → (∀ i : Nat, i < line.length → 0 ≤ geti filled (i : Int) ∧ geti filled (i : Int) + (Ww cl (line.drop begun.length) : Int) ≤ 100000000) →
    ∃ filled', gameroomref_lineFill_2_mF N line cl begun filled = some ((Ww cl (line.drop begun.length) : Int), filled') ∧ filled'.length = line.length ∧
      ∀ i : Nat, i < line.length → geti filled' (i : Int) = geti filled (i : Int) + addF begun (Ww cl (line.drop begun.length)) (Fw cl (line.drop begun.length)) i
  | 0, _, _, _, h, _, _, _, _, _, _ => by omega
  | N + 1, [], begun, filled, _, _, _, hn, hf, h01, hb => by
    show ∃ filled', gameroomref_lineFill_2_B (gameroomref_lineFill_2_mF N) line [] begun filled = _ ∧ _
    unfold gameroomref_lineFill_2_B
    rw [if_pos (by simp)]
    exact base_p hn hl hf h01 (fun i hi => by have := hb i hi; omega)
  | N + 1, L0 :: cl, begun, filled, hN, hc, hcl, hn, hf, h01, hb => by
    have hc' : okC cl := fun x hx => hc x (by simp [hx])
    have hL0 := hc L0 (by simp)
    obtain ⟨L, rfl⟩ : ∃ L : Nat, L0 = (L : Int) := ⟨L0.toNat, by omega⟩
    show ∃ filled', gameroomref_lineFill_2_B (gameroomref_lineFill_2_mF N) line ((L : Int) :: cl) begun filled = _ ∧ _
    unfold gameroomref_lineFill_2_B gameroomref_lineFill_2_J1
    obtain ⟨k, hk1, hk2, hk3⟩ := need_p hc hcl (by simp)
    rw [if_neg (by simp; omega), hk1, Option.bind_some]
    simp only [gameroomref_lineFill_2_K3]
    unfold gameroomref_lineFill_2_J8
    have hkL : L ≤ k := by
      rw [hk2]; unfold needN; simp
    -- what is left at a gap
    let W0 := Ww ((L : Int) :: cl) (line.drop begun.length)
    let R : Nat → Nat := fun g => if 0 < g ∧ geti line ((begun.length + g - 1 : Nat) : Int) = 1 then 0 else Ww ((L : Int) :: cl) (line.drop (begun.length + g))
    let RF : Nat → Nat → Nat := fun g i => if i < g then 0 else if 0 < g ∧ geti line ((begun.length + g - 1 : Nat) : Int) = 1 then 0 else Fw ((L : Int) :: cl) (line.drop (begun.length + g)) (i - g)
    have hW20 : W0 ≤ 2 ^ 20 := Nat.le_trans (Ww_le _ _) (Nat.pow_le_pow_right (by omega) (by rw [List.length_drop]; omega))
    have key := count_loop (step := gameroomref_lineFill_2_L4 (gameroomref_lineFill_2_mF N) line ((L : Int) :: cl) begun (k : Int)) (fun (s : List Int × Nat) (g : Nat) => (s.1, ((s.2 : Nat) : Int), (g : Int)))
      (fun g s => s.1.length = line.length ∧ s.2 + R g = W0 ∧ (∀ i : Nat, i < begun.length → geti s.1 (i : Int) = geti filled (i : Int) + (s.2 : Int) * geti begun (i : Int)) ∧
        (∀ i : Nat, begun.length + i < line.length → geti s.1 ((begun.length + i : Nat) : Int) + (RF g i : Int) = geti filled ((begun.length + i : Nat) : Int) + (Fw ((L : Int) :: cl) (line.drop begun.length) i : Int)) ∧ ∀ i : Nat, i < line.length → 0 ≤ geti s.1 (i : Int) ∧ geti s.1 (i : Int) ≤ geti filled (i : Int) + (s.2 : Int))
      (fun x => x.1 = (W0 : Int) ∧ x.2.length = line.length ∧ (∀ i : Nat, i < begun.length → geti x.2 (i : Int) = geti filled (i : Int) + (W0 : Int) * geti begun (i : Int)) ∧
        ∀ i : Nat, begun.length + i < line.length → geti x.2 ((begun.length + i : Nat) : Int) = geti filled ((begun.length + i : Nat) : Int) + (Fw ((L : Int) :: cl) (line.drop begun.length) i : Int))
      (line.length + 1 - begun.length) (filled, 0) ⟨hf, by simp [R, W0], fun i hi => by simp, fun i hi => by simp [RF], fun i hi => by have := hb i hi; dsimp only; omega⟩ ?_ ?_
    · obtain ⟨x, hx, hx1, hx2, hx3, hx4⟩ := key
      have hx' : loop (gameroomref_lineFill_2_L4 (gameroomref_lineFill_2_mF N) line ((L : Int) :: cl) begun (k : Int)) (filled, 0, 0) = some x := hx
      rw [hx', Option.bind_some]
      obtain ⟨x1, x2⟩ := x
      dsimp only at hx1 hx2 hx3 hx4
      subst hx1
      refine ⟨x2, rfl, hx2, fun i hi => ?_⟩
      unfold addF
      by_cases e : i < begun.length
      · rw [if_pos e]; exact hx3 i e
      · rw [if_neg e]
        have := hx4 (i - begun.length) (by omega)
        rw [show begun.length + (i - begun.length) = i by omega] at this
        exact this
    · rintro g ⟨f, many⟩ hg ⟨i1, i2, i3, i4, i5⟩
      dsimp only at i1 i2 i3 i4 i5
      have e0 : w64 (w64 ((begun.length : Int) + (g : Int)) + (k : Int)) = ((begun.length + g + k : Nat) : Int) := by rw [w64_of (x := (begun.length : Int) + (g : Int)) (by omega), w64_of (by omega)]; omega
      have estep : gameroomref_lineFill_2_L4 (gameroomref_lineFill_2_mF N) line ((L : Int) :: cl) begun (k : Int) (f, ((many : Nat) : Int), (g : Int)) = if (decide (((begun.length + g + k : Nat) : Int) ≤ (line.length : Int))) then (gameroomref_lineFill_2_J12 (gameroomref_lineFill_2_mF N) line ((L : Int) :: cl) begun f many g) else some (.done ((many : Int), f)) := by
        show (if (decide ((w64 ((w64 ((begun.length : Int) + (g : Int))) + (k : Int))) ≤ (line.length : Int))) then _ else _) = _
        rw [e0]
      dsimp only
      rw [estep]
      by_cases h1 : begun.length + g + k ≤ line.length
      · rw [if_pos (decide_eq_true (by omega))]
        unfold gameroomref_lineFill_2_J12
        have e1 : 0 < g → w64 (w64 ((begun.length : Int) + (g : Int)) - 1) = ((begun.length + g - 1 : Nat) : Int) := fun h => by rw [w64_of (x := (begun.length : Int) + (g : Int)) (by omega), w64_of (by omega)]; omega
        rw [asrt_pos (by intro z; simp at z; rw [e1 z]; omega)]
        by_cases h2 : 0 < g ∧ geti line ((begun.length + g - 1 : Nat) : Int) = 1
        · right
          have hR : R g = 0 := if_pos h2
          have hRF : ∀ i, RF g i = 0 := fun i => by simp only [RF]; split <;> first | rfl | exact if_pos h2
          refine ⟨_, by rw [if_pos (by rw [e1 h2.1, h2.2]; simp [h2.1])], ?_, i1, ?_, ?_⟩
          · dsimp only; omega
          · intro i hi; rw [i3 i hi]; rw [hR, Nat.add_zero] at i2; rw [i2]
          · intro i hi; have := i4 i hi; rw [hRF] at this; simpa using this
        · have hcnd : ¬ ((decide ((0 : Int) < (g : Int)) && (geti line (w64 (w64 ((begun.length : Int) + (g : Int)) - 1)) == 1)) = true) := by
            simp only [Bool.and_eq_true, decide_eq_true_eq, beq_iff_eq]
            rintro ⟨z1, z2⟩
            rw [e1 (by omega)] at z2
            exact h2 ⟨by omega, z2⟩
          rw [if_neg hcnd]
          left
          unfold gameroomref_lineFill_2_J14
          have hgl : begun.length + g < line.length := by omega
          have hline : line.drop (begun.length + g) = geti line ((begun.length + g : Nat) : Int) :: line.drop (begun.length + g + 1) := by
            rw [List.drop_eq_getElem_cons hgl]
            congr 1
            have := get_geti hgl
            rw [List.getElem?_eq_getElem hgl] at this
            exact Option.some.inj this
          -- what is left, taken apart
          obtain ⟨ft, hft0⟩ : ∃ b, b = fitL L (line.drop (begun.length + g)) := ⟨_, rfl⟩
          obtain ⟨G, hG⟩ : ∃ n, n = Ww cl ((line.drop (begun.length + g + 1)).drop L) := ⟨_, rfl⟩
          have hR : R g = (R (g + 1)) + (if ft = true then G else 0) := by
            have : R g = Ww ((L : Int) :: cl) (line.drop (begun.length + g)) := if_neg h2
            rw [this]
            show Wc (L : Int).toNat (Ww cl) (line.drop (begun.length + g)) = _
            rw [hft0, hG, hline]
            unfold Wc
            rw [← hline, Int.toNat_natCast]
            congr 1
            simp only [R]
            rw [show begun.length + (g + 1) - 1 = begun.length + g by omega, show begun.length + (g + 1) = begun.length + g + 1 by omega]
            by_cases z : geti line ((begun.length + g : Nat) : Int) = 1
            · rw [if_pos z, if_pos ⟨by omega, z⟩]
            · rw [if_neg z, if_neg (fun y => z y.2)]; rfl
          have hRF : ∀ i, RF g i = RF (g + 1) i + (if i < g then 0 else if ft = true then (if i - g < L then G else if i - g = L then 0 else Fw cl ((line.drop (begun.length + g + 1)).drop L) (i - g - L - 1)) else 0) := by
            intro i
            by_cases hi : i < g
            · simp only [RF]; rw [if_pos hi, if_pos (by omega), if_pos hi]
            · have : RF g i = Fw ((L : Int) :: cl) (line.drop (begun.length + g)) (i - g) := by simp only [RF]; rw [if_neg hi, if_neg h2]
              rw [this, if_neg hi]
              show Fc (L : Int).toNat (Ww cl) (Fw cl) (line.drop (begun.length + g)) (i - g) = _
              rw [hft0, hG, hline]
              unfold Fc
              rw [← hline, Int.toNat_natCast]
              congr 1
              simp only [RF]
              rw [show begun.length + (g + 1) - 1 = begun.length + g by omega, show begun.length + (g + 1) = begun.length + g + 1 by omega]
              by_cases z : geti line ((begun.length + g : Nat) : Int) = 1
              · rw [if_pos z]
                by_cases z2 : i < g + 1
                · rw [if_pos z2]
                · rw [if_neg z2, if_pos ⟨by omega, z⟩]
              · rw [if_neg z]
                by_cases z2 : i < g + 1
                · rw [if_pos z2, show i - g = 0 by omega]
                · rw [if_neg z2, if_neg (fun y => z y.2)]
                  obtain ⟨d, hd⟩ : ∃ d, i - g = d + 1 := ⟨i - g - 1, by omega⟩
                  rw [hd, show i - (g + 1) = d by omega]; rfl
          rw [Ints_p (by omega), Option.bind_some, zeros_p g (by omega) begun (by omega), Option.bind_some]
          simp only [gameroomref_lineFill_2_K5]
          unfold gameroomref_lineFill_2_J15
          have hbl : (begun ++ List.replicate g (0 : Int)).length = begun.length + g := by simp
          rw [ones_p (L := L) (by simp) rfl hl _ (by rw [hbl]; omega), Option.bind_some, hbl]
          simp only [gameroomref_lineFill_2_K6]
          unfold gameroomref_lineFill_2_J18
          generalize hb2e : begun ++ List.replicate g (0 : Int) ++ List.replicate L (1 : Int) = b2
          have hb2 : b2.length = begun.length + g + L := by rw [← hb2e, List.length_append, List.length_append, List.length_replicate, List.length_replicate]
          have gb2 : ∀ i : Nat, geti b2 (i : Int) = if i < begun.length then geti begun (i : Int) else if i < begun.length + g then 0 else if i < begun.length + g + L then 1 else 0 := by
            intro i
            rw [geti_nat, List.getD_eq_getElem?_getD]
            rw [← hb2e, List.getElem?_append, List.getElem?_append, List.length_append, List.length_replicate]
            by_cases c1 : i < begun.length
            · rw [if_pos (by omega), if_pos c1, if_pos c1, get_geti c1]; rfl
            · rw [if_neg c1]
              by_cases c2 : i < begun.length + g
              · rw [if_pos c2, if_neg c1, if_pos c2, List.getElem?_replicate]
                split <;> rfl
              · rw [if_neg c2, if_neg c1, if_neg c2, List.getElem?_replicate]
                by_cases c3 : i < begun.length + g + L
                · rw [if_pos (by omega), if_pos c3]; rfl
                · rw [if_neg (by omega), if_neg c3]; rfl
          -- the end of a turn
          have fin : ∀ (b3 : List Int) (ok : Bool), ok = ft → b3.length ≤ line.length → (∀ i : Nat, i < b3.length → geti b3 (i : Int) = geti b2 (i : Int)) → begun.length + g + L ≤ b3.length → line.drop b3.length = (line.drop (begun.length + g + 1)).drop L →
              (b3.length = begun.length + g + L + 1 ∨ b3.length = line.length ∧ line.length = begun.length + g + L) →
              ∃ s' : List Int × Nat, gameroomref_lineFill_2_J21 (gameroomref_lineFill_2_mF N) line ((L : Int) :: cl) f many g b3 ok = some (.next (s'.1, ((s'.2 : Nat) : Int), ((g + 1 : Nat) : Int))) ∧
                (s'.1.length = line.length ∧ s'.2 + R (g + 1) = W0 ∧ (∀ i : Nat, i < begun.length → geti s'.1 (i : Int) = geti filled (i : Int) + (s'.2 : Int) * geti begun (i : Int)) ∧
                  (∀ i : Nat, begun.length + i < line.length → geti s'.1 ((begun.length + i : Nat) : Int) + (RF (g + 1) i : Int) = geti filled ((begun.length + i : Nat) : Int) + (Fw ((L : Int) :: cl) (line.drop begun.length) i : Int)) ∧
                  ∀ i : Nat, i < line.length → 0 ≤ geti s'.1 (i : Int) ∧ geti s'.1 (i : Int) ≤ geti filled (i : Int) + (s'.2 : Int)) := by
            rintro b3 ok hok hb3 gb3 hb3b hdrop hb3c
            unfold gameroomref_lineFill_2_J21 gameroomref_lineFill_2_J13
            rw [hok]
            by_cases hft : ft = true
            · rw [if_pos hft] at hR
              have hcut : cut ((L : Int) :: cl) 1 (((L : Int) :: cl).length : Int) = cl := by
                unfold cut
                simp
              have hGle : G ≤ W0 := by omega
              have fb : ∀ i : Nat, i < line.length → 0 ≤ geti f (i : Int) ∧ geti f (i : Int) + (G : Int) ≤ 100000000 := by
                intro i hi
                have h0 := hb i hi
                have hW : (Ww ((L : Int) :: cl) (line.drop begun.length)) = W0 := rfl
                rw [hW] at h0
                have h5 := i5 i hi
                omega
              obtain ⟨f', hf1, hf2, hf3⟩ := fill_F hl N cl b3 f (by simp at hN; omega) hc' (by simp at hcl; omega) hb3 i1 (fun i hi => by
                rw [gb3 i hi, gb2 i]
                split
                · exact h01 i (by assumption)
                · split
                  · omega
                  · split <;> omega) (fun i hi => by rw [hdrop, ← hG]; exact fb i hi)
              rw [hdrop, ← hG] at hf1 hf3
              rw [if_pos hft, asrt_pos (by simp only [List.length_cons]; omega), hcut, hf1, Option.bind_some]
              dsimp only
              refine ⟨(f', many + G), ?_, hf2, ?_, ?_, ?_, ?_⟩
              · rw [w64_of (by omega), w64_of (by omega)]
                congr 4
              · dsimp only; omega
              · intro i hi
                rw [hf3 i (by omega), i3 i hi]
                unfold addF
                rw [if_pos (by omega), gb3 i (by omega), gb2 i, if_pos hi]
                dsimp only
                rw [Int.natCast_add, Int.add_mul]
                omega
              · intro i hi
                have h5 := i4 i hi
                have h6 := hRF i
                rw [hf3 _ hi]
                unfold addF
                by_cases c1 : i < g
                · rw [if_pos c1] at h6
                  rw [if_pos (by omega), gb3 _ (by omega), gb2, if_neg (by omega), if_pos (by omega)]
                  omega
                · rw [if_neg c1, if_pos hft] at h6
                  by_cases c2 : i - g < L
                  · rw [if_pos c2] at h6
                    rw [if_pos (by omega), gb3 _ (by omega), gb2, if_neg (by omega), if_neg (by omega), if_pos (by omega)]
                    show _ + (G : Int) * 1 + _ = _
                    omega
                  · rw [if_neg c2] at h6
                    by_cases c3 : i - g = L
                    · rw [if_pos c3] at h6
                      rw [if_pos (by omega), gb3 _ (by omega), gb2, if_neg (by omega), if_neg (by omega), if_neg (by omega)]
                      omega
                    · rw [if_neg c3] at h6
                      have c4 : b3.length = begun.length + g + L + 1 := by omega
                      rw [if_neg (by omega), c4, show begun.length + i - (begun.length + g + L + 1) = i - g - L - 1 by omega]
                      omega
              · intro i hi
                have h5 := i5 i hi
                have h6 := addF_bd (begun := b3) (W := G) (F := Fw cl ((line.drop (begun.length + g + 1)).drop L)) (i := i) (fun z => by
                  rw [gb3 i z, gb2 i]
                  split
                  · exact h01 i (by assumption)
                  · split
                    · omega
                    · split <;> omega) (fun j => by rw [hG]; exact Fw_le _ _ _)
                rw [hf3 i hi]
                dsimp only
                omega
            · rw [if_neg hft] at hR
              rw [if_neg hft]
              refine ⟨(f, many), by rw [w64_of (by omega)]; rfl, i1, by dsimp only; omega, i3, fun i hi => ?_, i5⟩
              have h5 := i4 i hi
              have h6 := hRF i
              rw [if_neg hft] at h6
              have h7 : RF g i = RF (g + 1) i := by
                rw [h6]; split <;> rfl
              rw [h7] at h5
              exact h5
          have hfl : ft = (((line.drop (begun.length + g)).take L).all (fun x => x != 0) && ((line.drop (begun.length + g))[L]? != some 1)) := by
            rw [hft0]
            unfold fitL
            rw [decide_eq_true (by rw [List.length_drop]; omega), Bool.true_and]
          by_cases h3 : b2.length < line.length
          · rw [if_pos (decide_eq_true (by omega)), asrt_pos (by intro _; omega), asrt_pos (by unfold bigN; omega)]
            refine fin (b2 ++ [0]) _ ?_ ?_ ?_ ?_ ?_ ?_
            · rw [hfl, List.getElem?_drop, get_geti (by omega), hb2]
              congr 1
            · rw [List.length_append]; simp; omega
            · intro i hi
              by_cases c : i < b2.length
              · rw [geti_nat, geti_nat, List.getD_eq_getElem?_getD, List.getD_eq_getElem?_getD, List.getElem?_append_left c]
              · have : i = b2.length := by rw [List.length_append] at hi; simp at hi; omega
                rw [gb2 i, if_neg (by omega), if_neg (by omega), if_neg (by omega), this, geti_nat, List.getD_eq_getElem?_getD, List.getElem?_append_right (Nat.le_refl _)]
                simp
            · rw [List.length_append]; omega
            · rw [List.length_append, hb2, List.drop_drop]; congr 1; simp; omega
            · left; rw [List.length_append, hb2]; rfl
          · rw [if_neg (by simp; omega)]
            refine fin b2 _ ?_ (by omega) (fun i hi => rfl) (by omega) ?_ (Or.inr ⟨by omega, by omega⟩)
            · rw [hfl, List.getElem?_drop, List.getElem?_eq_none (by omega)]; simp
            · rw [List.drop_drop, List.drop_eq_nil_of_le (by omega), List.drop_eq_nil_of_le (by omega)]
      · rw [if_neg (by simp; omega)]
        right
        have hsm : Ww ((L : Int) :: cl) (line.drop (begun.length + g)) = 0 := Ww_small _ hc _ (by rw [List.length_drop, ← hk2]; omega)
        have hR : R g = 0 := by simp only [R]; split <;> first | rfl | exact hsm
        have hRF : ∀ i, RF g i = 0 := fun i => by
          have := Fw_le ((L : Int) :: cl) (line.drop (begun.length + g)) (i - g)
          simp only [RF]
          split
          · rfl
          · split
            · rfl
            · omega
        refine ⟨_, rfl, ?_, i1, ?_, ?_⟩
        · dsimp only; omega
        · intro i hi; rw [i3 i hi]; rw [hR, Nat.add_zero] at i2; rw [i2]
        · intro i hi; have := i4 i hi; rw [hRF] at this; simpa using this
    · rintro ⟨f, many⟩ ⟨i1, i2, i3, i4, i5⟩
      dsimp only at i1 i2 i3 i4 i5
      have hsm : Ww ((L : Int) :: cl) (line.drop (begun.length + (line.length + 1 - begun.length))) = 0 := by rw [List.drop_eq_nil_of_le (by omega)]; rfl
      have hR : R (line.length + 1 - begun.length) = 0 := by simp only [R]; split <;> first | rfl | exact hsm
      have hRF : ∀ i, RF (line.length + 1 - begun.length) i = 0 := fun i => by
        have := Fw_le ((L : Int) :: cl) (line.drop (begun.length + (line.length + 1 - begun.length))) (i - (line.length + 1 - begun.length))
        simp only [RF]
        split
        · rfl
        · split
          · rfl
          · omega
      refine ⟨((many : Int), f), ?_, ?_, i1, ?_, ?_⟩
      · show (if (decide ((w64 ((w64 ((begun.length : Int) + ((line.length + 1 - begun.length : Nat) : Int))) + (k : Int))) ≤ (line.length : Int))) then _ else _) = _
        rw [if_neg]
        rw [w64_of (x := (begun.length : Int) + _) (by omega), w64_of (by omega)]
        simp; omega
      · dsimp only; omega
      · intro i hi; rw [i3 i hi]; rw [hR, Nat.add_zero] at i2; rw [i2]
      · intro i hi; have := i4 i hi; rw [hRF] at this; simpa using this
end Go.Proofs.Ytdjjomghggplpaa
