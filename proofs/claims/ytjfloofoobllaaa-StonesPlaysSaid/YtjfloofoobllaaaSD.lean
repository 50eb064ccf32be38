/-
  StonesPuts: what a stone takes, and the law.
-/
import Derived.Test.YtjfloofoobllaaaSC
namespace Go.Proofs.Ytjfloofoobllaaa
open Go Go.GL

section
variable {W H : Int} {c0 c1 : List Int} {v : Int} {R : Nat → Prop}

def Free (W : Int) (c : List Int) (v : Int) (p : Nat) : Prop := ∃ d : Nat, d < c.length ∧ Lib W c v p d
theorem lib_nil {p : Nat} : libL W c0 v p = [] ↔ ¬ Free W c0 v p := by
  classical
  unfold libL Free
  rw [List.map_eq_nil_iff, List.filter_eq_nil_iff]
  constructor
  · rintro h ⟨d, hd, hl⟩
    exact h d (List.mem_range.2 hd) (decide_eq_true hl)
  · intro h d hd hl
    exact h ⟨d, List.mem_range.1 hd, of_decide_eq_true hl⟩

/-- Some whole groups without a liberty are gone. -/
structure Rem (W : Int) (c0 : List Int) (v : Int) (R : Nat → Prop) (c1 : List Int) : Prop where
  len : c1.length = c0.length
  gone : ∀ b : Nat, R b → geti c1 b = 0
  kept : ∀ b : Nat, b < c0.length → ¬ R b → geti c1 b = geti c0 b
  sub : ∀ b : Nat, R b → b < c0.length ∧ geti c0 b = v ∧ ¬ Free W c0 v b
  clo : ∀ a b : Nat, R b → a < c0.length → Adj W b a → geti c0 a = v → R a

theorem rem_out (h : Rem W c0 v R c1) {p : Nat} (hp : p < c0.length) (hv : geti c0 p = v) (hR : ¬ R p) {b : Nat} (hb : Rch W c0 v p b) : ¬ R b := by
  induction hb with
  | base => exact hR
  | step h1 h2 h3 ih =>
    rename_i a b
    intro hRb
    have ha := Reach.mk_of (mk := fun b => b < c0.length ∧ geti c0 b = v) ⟨hp, hv⟩ h1
    exact ih (h.clo a b hRb ha.1 h2.symm ha.2)

theorem rem_rch (h : Rem W c0 v R c1) (h0 : v ≠ 0) {p : Nat} (hp : p < c0.length) (hv : geti c0 p = v) (hR : ¬ R p) (b : Nat) : Rch W c1 v p b ↔ Rch W c0 v p b := by
  constructor
  · intro hb
    induction hb with
    | base => exact .base
    | step h1 h2 h3 ih =>
      rename_i a b
      have hlt : b < c0.length := by rw [← h.len]; exact h3.1
      have hn : ¬ R b := fun q => h0 (by rw [← h3.2, h.gone b q])
      exact .step ih h2 ⟨hlt, by rw [← h.kept b hlt hn]; exact h3.2⟩
  · intro hb
    induction hb with
    | base => exact .base
    | step h1 h2 h3 ih =>
      rename_i a b
      have hn := rem_out h hp hv hR (.step h1 h2 h3)
      exact .step ih h2 ⟨by rw [h.len]; exact h3.1, by rw [h.kept b h3.1 hn]; exact h3.2⟩

theorem rem_free (h : Rem W c0 v R c1) (h0 : v ≠ 0) {p : Nat} (hp : p < c0.length) (hv : geti c0 p = v) (hR : ¬ R p) : Free W c1 v p ↔ Free W c0 v p := by
  unfold Free Lib
  constructor
  · rintro ⟨d, hd, hz, a, ha, had⟩
    rw [h.len] at hd
    have ha' := (rem_rch h h0 hp hv hR a).1 ha
    have hm := Reach.mk_of (mk := fun b => b < c0.length ∧ geti c0 b = v) ⟨hp, hv⟩ ha'
    have hn : ¬ R d := fun q => rem_out h hp hv hR ha' (h.clo a d q hm.1 had.symm hm.2)
    exact ⟨d, hd, by rw [← h.kept d hd hn]; exact hz, a, ha', had⟩
  · rintro ⟨d, hd, hz, a, ha, had⟩
    have hn : ¬ R d := fun q => h0 (by rw [← (h.sub d q).2.1]; exact hz)
    exact ⟨d, by rw [h.len]; exact hd, by rw [h.kept d hd hn]; exact hz, a, (rem_rch h h0 hp hv hR a).2 ha, had⟩

theorem rem_grp (h : Rem W c0 v R c1) (h0 : v ≠ 0) {p : Nat} (hp : p < c0.length) (hv : geti c0 p = v) (hR : ¬ R p) : grpL W c1 v p = grpL W c0 v p := by
  classical
  unfold grpL
  rw [h.len]
  congr 1
  refine List.filter_congr fun b _ => ?_
  rw [Bool.eq_iff_iff, decide_eq_true_eq, decide_eq_true_eq]
  exact rem_rch h h0 hp hv hR b

theorem mem_grp {p b : Nat} : (b : Int) ∈ grpL W c0 v p ↔ b < c0.length ∧ Rch W c0 v p b := by
  classical
  unfold grpL
  rw [List.mem_map]
  constructor
  · rintro ⟨d, hd, e⟩
    obtain rfl : d = b := by omega
    rw [List.mem_filter, List.mem_range, decide_eq_true_eq] at hd
    exact hd
  · intro h
    exact ⟨b, by rw [List.mem_filter, List.mem_range, decide_eq_true_eq]; exact h, rfl⟩
theorem grp_in {p : Nat} : ∀ q ∈ grpL W c0 v p, 0 ≤ q ∧ q < c0.length := by
  classical
  intro q hq
  unfold grpL at hq
  rw [List.mem_map] at hq
  obtain ⟨d, hd, rfl⟩ := hq
  rw [List.mem_filter, List.mem_range] at hd
  omega

theorem rem_add (h : Rem W c0 v R c1) {p : Nat} (hp : p < c0.length) (hv : geti c0 p = v) (hf : ¬ Free W c0 v p) : Rem W c0 v (fun b => R b ∨ Rch W c0 v p b) (setAll c1 (grpL W c0 v p) 0) := by
  have hin : ∀ q ∈ grpL W c0 v p, 0 ≤ q ∧ q < c1.length := by rw [h.len]; exact grp_in
  have hmk : ∀ b, Rch W c0 v p b → b < c0.length ∧ geti c0 b = v := fun b hb => Reach.mk_of (mk := fun b => b < c0.length ∧ geti c0 b = v) ⟨hp, hv⟩ hb
  refine ⟨by rw [setAll_length, h.len], fun b hb => ?_, fun b hb hn => ?_, fun b hb => ?_, fun a b hb ha had hav => ?_⟩
  · by_cases q : Rch W c0 v p b
    · have := (hmk b q).1
      rw [setAll_get 0 _ _ b hin (by rw [h.len]; exact this), if_pos (mem_grp.2 ⟨this, q⟩)]
    · rcases hb with hb | hb
      · have := (h.sub b hb).1
        rw [setAll_get 0 _ _ b hin (by rw [h.len]; exact this)]
        split
        · rfl
        · exact h.gone b hb
      · exact absurd hb q
  · rw [setAll_get 0 _ _ b hin (by rw [h.len]; exact hb), if_neg (fun q => hn (Or.inr (mem_grp.1 q).2))]
    exact h.kept b hb (fun q => hn (Or.inl q))
  · rcases hb with hb | hb
    · exact h.sub b hb
    · refine ⟨(hmk b hb).1, (hmk b hb).2, ?_⟩
      rintro ⟨d, hd, hz, a, ha, had⟩
      exact hf ⟨d, hd, hz, a, hb.trans ha, had⟩
  · rcases hb with hb | hb
    · exact Or.inl (h.clo a b hb ha had hav)
    · exact Or.inr (.step hb had ⟨ha, hav⟩)

open Classical in
noncomputable def nR (L : Nat) (R : Nat → Prop) : Nat := ((List.range L).filter (fun b => decide (R b))).length
theorem nR_succ (L : Nat) (R : Nat → Prop) [Decidable (R L)] : nR (L + 1) R = nR L R + (if R L then 1 else 0) := by
  classical
  unfold nR
  rw [List.range_succ, List.filter_append, List.length_append]
  congr 1
  by_cases h : R L <;> simp [h]
theorem nR_false : ∀ L, nR L (fun _ => False) = 0
  | 0 => rfl
  | L + 1 => by rw [nR_succ, nR_false L]; rfl
theorem filt_or {A B : Nat → Prop} (hd : ∀ b, A b → ¬ B b) : ∀ L : Nat, nR L (fun b => A b ∨ B b) = nR L A + nR L B
  | 0 => rfl
  | L + 1 => by
    classical
    have ih := filt_or hd L
    rw [nR_succ, nR_succ, nR_succ, ih]
    by_cases ha : A L
    · have hb := hd L ha
      rw [if_pos (Or.inl ha), if_pos ha, if_neg hb]; omega
    · by_cases hb : B L
      · rw [if_pos (Or.inr hb), if_neg ha, if_pos hb]; omega
      · rw [if_neg (fun h => h.elim ha hb), if_neg ha, if_neg hb]; omega

theorem nR_le (L : Nat) (R : Nat → Prop) : nR L R ≤ L := by
  classical
  unfold nR
  refine Nat.le_trans (List.length_filter_le _ _) ?_
  rw [List.length_range]; exact Nat.le_refl _
theorem grp_len {p : Nat} : (grpL W c0 v p).length = nR c0.length (Rch W c0 v p) := by
  unfold grpL nR
  rw [List.length_map]

/-- The stones that go. -/
def Gone (W : Int) (c0 : List Int) (v : Int) (b : Nat) : Prop := b < c0.length ∧ geti c0 b = v ∧ ¬ Free W c0 v b

theorem take_scan (B : Dm W H c0) (h0 : v ≠ 0) {who : Int} (hw : w64 (3 - who) = v) {c : List Int} (hlc : c.length = c0.length) :
    ∃ g, loop (stones_put_L1 W H who c) (c0, 0, 0) = some (g, (nR c0.length (Gone W c0 v) : Int)) ∧ Rem W c0 v (Gone W c0 v) g := by
  classical
  have hsm := B.small
  have key := count_loop (step := stones_put_L1 W H who c) (fun (s : List Int × Int) (i : Nat) => (s.1, s.2, (i : Int)))
    (fun n s => ∃ R : Nat → Prop, Rem W c0 v R s.1 ∧ s.2 = (nR c0.length R : Int) ∧ ∀ b : Nat, b < n → Gone W c0 v b → R b)
    (fun r => Rem W c0 v (Gone W c0 v) r.1 ∧ r.2 = (nR c0.length (Gone W c0 v) : Int)) c0.length (c0, 0) ⟨fun _ => False, ⟨rfl, fun _ h => h.elim, fun _ _ _ => rfl, fun _ h => h.elim, fun _ _ h => h.elim⟩, by simp only; rw [nR_false]; rfl, fun b hb => by omega⟩ (by
      rintro i ⟨g, t⟩ hi ⟨R, h1, h2, h3⟩
      left
      simp only at h1 h2 ⊢
      have hgl := h1.len
      have hRle := nR_le c0.length R
      have e1 : stones_put_L1 W H who c (g, t, (i : Int)) = stones_put_J3 W H who c g t i := if_pos (decide_eq_true (by omega))
      rw [e1]
      unfold stones_put_J3 stones_put_J4
      rw [hw, asrt_pos (by omega), asrt_pos (fun _ => by omega), w64_of (x := (i : Int) + 1) (by omega)]
      by_cases hv : geti g i = v
      · have hRi : ¬ R i := fun q => h0 (by rw [← hv]; exact h1.gone i q)
        have hv0 : geti c0 i = v := by rw [← h1.kept i hi hRi]; exact hv
        have ne : ((geti g (i : Int) != v) || (geti g (i : Int) == 0)) = false := by
          rw [hv, Bool.or_eq_false_iff]
          exact ⟨by simp, by simpa using h0⟩
        rw [ne, if_neg (by decide)]
        unfold stones_put_J5
        rw [group_p (B.of_len hgl) (by omega) hv h0, Option.bind_some, rem_grp h1 h0 hi hv0 hRi]
        simp only
        by_cases hf : Free W c0 v i
        · have hn : ¬ (((libL W g v i).length : Int) == 0) = true := by
            rw [beq_iff_eq]
            intro q
            have : libL W g v i = [] := List.length_eq_zero_iff.1 (by omega)
            exact lib_nil.1 this ((rem_free h1 h0 hi hv0 hRi).2 hf)
          rw [if_neg hn]
          unfold stones_put_J4
          rw [w64_of (x := (i : Int) + 1) (by omega)]
          refine ⟨(g, t), rfl, R, h1, h2, fun b hb hG => ?_⟩
          by_cases e : b = i
          · subst e; exact absurd hf hG.2.2
          · exact h3 b (by omega) hG
        · have hn : (((libL W g v i).length : Int) == 0) = true := by
            rw [lib_nil.2 (fun q => hf ((rem_free h1 h0 hi hv0 hRi).1 q))]; rfl
          rw [if_pos hn]
          have hdis : ∀ b, R b → ¬ Rch W c0 v i b := fun b hb hr => rem_out h1 hi hv0 hRi hr hb
          have hlen : nR c0.length (fun b => R b ∨ Rch W c0 v i b) = nR c0.length R + nR c0.length (Rch W c0 v i) := filt_or hdis _
          have hle := nR_le c0.length (fun b => R b ∨ Rch W c0 v i b)
          have hgs := grp_len (W := W) (c0 := c0) (v := v) (p := i)
          have k2 := count_loop (step := stones_put_L2 c t (grpL W c0 v i, libL W g v i)) (fun (s : List Int) (z : Nat) => (s, (z : Int))) (fun n s => s = setAll g ((grpL W c0 v i).take n) 0) (fun r => r = (setAll g (grpL W c0 v i) 0, t + (grpL W c0 v i).length)) (grpL W c0 v i).length g rfl (by
            rintro z s hz rfl
            left
            have hg := get_geti hz
            have hin := grp_in _ (List.mem_of_getElem? hg)
            refine ⟨_, ?_, rfl⟩
            have e2 : stones_put_L2 c t (grpL W c0 v i, libL W g v i) (setAll g ((grpL W c0 v i).take z) 0, (z : Int)) = stones_put_J6 c (grpL W c0 v i, libL W g v i) (setAll g ((grpL W c0 v i).take z) 0) z := if_pos (decide_eq_true (by show (z : Int) < ((grpL W c0 v i).length : Int); omega))
            rw [e2]
            unfold stones_put_J6 stones_put_J7
            simp only
            rw [asrt_pos (by omega), asrt_pos (by omega), w64_of (x := (z : Int) + 1) (by omega), List.take_add_one, hg, setAll_append]
            rfl) (by
            rintro s rfl
            refine ⟨_, ?_, rfl⟩
            simp only [stones_put_L2]
            rw [if_neg (by simp), List.take_length, w64_of (by omega)])
          obtain ⟨r, hr, rfl⟩ := k2
          have hr' : loop (stones_put_L2 c t (grpL W c0 v i, libL W g v i)) (g, 0) = _ := hr
          rw [hr', Option.bind_some]
          simp only [stones_put_K2, stones_put_J4]
          rw [w64_of (x := (i : Int) + 1) (by omega)]
          refine ⟨(setAll g (grpL W c0 v i) 0, t + (grpL W c0 v i).length), rfl, fun b => R b ∨ Rch W c0 v i b, rem_add h1 hi hv0 hf, by simp only; rw [hlen, h2, hgs]; omega, fun b hb hG => ?_⟩
          by_cases e : b = i
          · subst e; exact Or.inr .base
          · exact Or.inl (h3 b (by omega) hG)
      · have ne : ((geti g (i : Int) != v) || (geti g (i : Int) == 0)) = true := by
          rw [Bool.or_eq_true]; exact Or.inl (by simpa using hv)
        rw [if_pos ne]
        refine ⟨(g, t), rfl, R, h1, h2, fun b hb hG => ?_⟩
        by_cases e : b = i
        · subst e
          exact Classical.byContradiction fun q => hv (by rw [h1.kept b hi q]; exact hG.2.1)
        · exact h3 b (by omega) hG) (by
      rintro ⟨g, t⟩ ⟨R, h1, h2, h3⟩
      have e : R = Gone W c0 v := by
        funext b
        apply propext
        constructor
        · exact fun h => h1.sub b h
        · exact fun h => h3 b h.1 h
      subst e
      refine ⟨(g, t), ?_, h1, h2⟩
      simp only [stones_put_L1]
      rw [if_neg (by simp; omega)])
  obtain ⟨⟨g, t⟩, hr, h1, h2⟩ := key
  simp only at h1 h2
  subst h2
  exact ⟨g, hr, h1⟩

open Classical in
noncomputable def goneL (W : Int) (c0 : List Int) (v : Int) : List Int := ((List.range c0.length).filter (fun b => decide (Gone W c0 v b))).map (fun (b : Nat) => (b : Int))

theorem gone_scan (B : Dm W H c0) {who : Int} {p : Nat} {c : List Int} (hw : w64 (3 - who) = v) (hc : c.set p who = c0) (hlc : c.length = c0.length) : loop (gameroomref_PutStone_L1 who p (W, H, c)) ([], 0) = some (goneL W c0 v) := by
  classical
  have hsm := B.small
  have key := count_loop (step := gameroomref_PutStone_L1 who p (W, H, c)) (fun (s : List Int) (i : Nat) => (s, (i : Int))) (fun n s => s = ((List.range n).filter (fun b => decide (Gone W c0 v b))).map (fun (b : Nat) => (b : Int)) ∧ s.length ≤ n) (fun r => r = goneL W c0 v) c0.length [] ⟨rfl, by simp⟩ (by
    rintro i s hi ⟨hs, hl⟩
    left
    have e1 : gameroomref_PutStone_L1 who p (W, H, c) (s, (i : Int)) = gameroomref_PutStone_J4 who p (W, H, c) s i := if_pos (decide_eq_true (by simp only; omega))
    rw [e1]
    unfold gameroomref_PutStone_J4 gameroomref_PutStone_J5
    simp only
    rw [asrt_pos (by omega), Int.toNat_natCast, hc, hw, w64_of (by omega), List.range_succ, List.filter_append, List.map_append, ← hs]
    by_cases hv : geti c0 i = v
    · rw [if_pos (beq_iff_eq.2 hv), groupOf_r B hi hv, Option.bind_some]
      by_cases hf : Free W c0 v i
      · have hn : ¬ (((libL W c0 v i).length : Int) == 0) = true := by
          rw [beq_iff_eq]
          intro q
          exact lib_nil.1 (List.length_eq_zero_iff.1 (by omega)) hf
        rw [if_neg hn]
        have hG : ¬ Gone W c0 v i := fun h => h.2.2 hf
        exact ⟨s, rfl, by simp [hG], by omega⟩
      · have hn : (((libL W c0 v i).length : Int) == 0) = true := by rw [lib_nil.2 hf]; rfl
        rw [if_pos hn, asrt_pos (by unfold bigN; omega)]
        have hG : Gone W c0 v i := ⟨hi, hv, hf⟩
        exact ⟨_, rfl, by simp [hG], by rw [List.length_append]; simp; omega⟩
    · rw [if_neg (by simpa using hv)]
      have hG : ¬ Gone W c0 v i := fun h => hv h.2.1
      exact ⟨s, rfl, by simp [hG], by omega⟩) (by
    rintro s ⟨rfl, hl⟩
    refine ⟨_, ?_, rfl⟩
    simp only [gameroomref_PutStone_L1]
    rw [if_neg (by simp; omega)]; rfl)
  obtain ⟨r, hr, rfl⟩ := key
  exact hr

theorem goneL_len : (goneL W c0 v).length = nR c0.length (Gone W c0 v) := by
  unfold goneL nR
  rw [List.length_map]
theorem goneL_in : ∀ q ∈ goneL W c0 v, 0 ≤ q ∧ q < c0.length := by
  classical
  intro q hq
  unfold goneL at hq
  rw [List.mem_map] at hq
  obtain ⟨d, hd, rfl⟩ := hq
  rw [List.mem_filter, List.mem_range] at hd
  omega
theorem mem_goneL {b : Nat} : (b : Int) ∈ goneL W c0 v ↔ Gone W c0 v b := by
  classical
  unfold goneL
  rw [List.mem_map]
  constructor
  · rintro ⟨d, hd, e⟩
    obtain rfl : d = b := by omega
    rw [List.mem_filter, decide_eq_true_eq] at hd
    exact hd.2
  · intro h
    exact ⟨b, by rw [List.mem_filter, List.mem_range, decide_eq_true_eq]; exact ⟨h.1, h⟩, rfl⟩

theorem clear_scan (B : Dm W H c0) {c : List Int} (hlc : c.length = c0.length) : loop (gameroomref_PutStone_L2 (W, H, c) (goneL W c0 v)) (c0, 0) = some (setAll c0 (goneL W c0 v) 0) := by
  have hsm := B.small
  have hgl := goneL_len (W := W) (c0 := c0) (v := v)
  have hle := nR_le c0.length (Gone W c0 v)
  have key := count_loop (step := gameroomref_PutStone_L2 (W, H, c) (goneL W c0 v)) (fun (s : List Int) (z : Nat) => (s, (z : Int))) (fun n s => s = setAll c0 ((goneL W c0 v).take n) 0) (fun r => r = setAll c0 (goneL W c0 v) 0) (goneL W c0 v).length c0 rfl (by
    rintro z s hz rfl
    left
    have hg := get_geti hz
    have hin := goneL_in _ (List.mem_of_getElem? hg)
    refine ⟨_, ?_, rfl⟩
    have e2 : gameroomref_PutStone_L2 (W, H, c) (goneL W c0 v) (setAll c0 ((goneL W c0 v).take z) 0, (z : Int)) = gameroomref_PutStone_J7 (W, H, c) (goneL W c0 v) (setAll c0 ((goneL W c0 v).take z) 0) z := if_pos (decide_eq_true (by omega))
    rw [e2]
    unfold gameroomref_PutStone_J7 gameroomref_PutStone_J8
    simp only
    rw [asrt_pos (by omega), asrt_pos (by omega), w64_of (x := (z : Int) + 1) (by omega), List.take_add_one, hg, setAll_append]
    rfl) (by
    rintro s rfl
    refine ⟨_, ?_, rfl⟩
    simp only [gameroomref_PutStone_L2]
    rw [if_neg (by simp), List.take_length])
  obtain ⟨r, hr, rfl⟩ := key
  exact hr
end

end Go.Proofs.Ytjfloofoobllaaa
