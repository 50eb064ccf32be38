/-
  StonesAreas: the areas.
-/
import Derived.Test.YtdjjomghggplpaaKC
namespace Go.Proofs.Ytdjjomghggplpaa
open Go Go.GL

theorem markall {step : List Bool × Int → Option (St (List Bool × Int) (List Bool))} {l : List Int} {N : Nat} (hin : ∀ q ∈ l, ∃ b : Nat, b < N ∧ q = b)
    (h1 : ∀ (d : List Bool) (z : Nat), d.length = N → z < l.length → step (d, (z : Int)) = some (.next (d.set (Int.toNat (geti l z)) true, ((z + 1 : Nat) : Int)))) (h2 : ∀ d, step (d, (l.length : Int)) = some (.done d)) {d : List Bool} (hd : d.length = N) :
    ∃ d', loop step (d, 0) = some d' ∧ d'.length = N ∧ ∀ b : Nat, b < N → (getb d' b = true ↔ getb d b = true ∨ (b : Int) ∈ l) := by
  have key := count_loop (step := step) (fun (s : List Bool) (z : Nat) => (s, (z : Int))) (fun n s => s.length = N ∧ ∀ b : Nat, b < N → (getb s b = true ↔ getb d b = true ∨ (b : Int) ∈ l.take n)) (fun r => r.length = N ∧ ∀ b : Nat, b < N → (getb r b = true ↔ getb d b = true ∨ (b : Int) ∈ l)) l.length d ⟨hd, fun b hb => by simp⟩ (by
    rintro z s hz ⟨g1, g2⟩
    left
    have hg := get_geti hz
    obtain ⟨e, he, hq⟩ := hin _ (List.mem_of_getElem? hg)
    refine ⟨_, h1 s z g1 hz, by rw [List.length_set]; exact g1, fun b hb => ?_⟩
    rw [hq, Int.toNat_natCast, getbs (by omega), List.take_add_one, hg, hq, List.mem_append]
    by_cases q : b = e
    · subst q; simp
    · rw [if_neg q, g2 b hb]
      constructor
      · rintro (h | h)
        · exact Or.inl h
        · exact Or.inr (Or.inl h)
      · rintro (h | h | h)
        · exact Or.inl h
        · exact Or.inr h
        · simp at h; omega) (by
    rintro s ⟨g1, g2⟩
    rw [List.take_length] at g2
    exact ⟨s, h2 s, g1, g2⟩)
  obtain ⟨r, hr, h⟩ := key
  exact ⟨r, hr, h⟩

theorem nR_one {L n : Nat} (h : n < L) : nR L (fun b => b = n) = 1 := by
  classical
  have : ∀ L : Nat, nR L (fun b => b = n) = if n < L then 1 else 0 := by
    intro L
    induction L with
    | zero => rfl
    | succ L ih =>
      rw [nR_succ, ih]
      by_cases e : L = n
      · subst e; rw [if_neg (by omega), if_pos rfl, if_pos (by omega)]
      · rw [if_neg e]
        by_cases q : n < L
        · rw [if_pos q, if_pos (by omega)]
        · rw [if_neg q, if_neg (by omega)]
  rw [this, if_pos h]

section
variable {W H : Int} {c : List Int}

def Side (W : Int) (c : List Int) (v : Int) (b : Nat) : Prop := ∃ d : Nat, d < c.length ∧ Brd W c so1 b d ∧ geti c d = v
open Classical in
noncomputable def cls (W : Int) (c : List Int) (b : Nat) : Int := if Side W c 1 b then (if Side W c 2 b then 0 else 1) else (if Side W c 2 b then 2 else 0)
theorem side_rch {k b : Nat} {v : Int} (hk : Mk c so1 k) (h : Rch W c so1 k b) : Side W c v b ↔ Side W c v k := by
  constructor
  · rintro ⟨d, h1, ⟨h2, a, h3, h4⟩, h5⟩
    exact ⟨d, h1, ⟨h2, a, h.trans h3, h4⟩, h5⟩
  · rintro ⟨d, h1, ⟨h2, a, h3, h4⟩, h5⟩
    exact ⟨d, h1, ⟨h2, a, (rch_symm hk h).trans h3, h4⟩, h5⟩
theorem cls_rch {k b : Nat} (hk : Mk c so1 k) (h : Rch W c so1 k b) : cls W c b = cls W c k := by
  have e1 := propext (side_rch (v := 1) hk h)
  have e2 := propext (side_rch (v := 2) hk h)
  unfold cls
  rw [e1, e2]
theorem cls_bd (b : Nat) : 0 ≤ cls W c b ∧ cls W c b ≤ 2 := by
  unfold cls
  split <;> split <;> omega

def wv (o t : Bool) : Int := (if o then 1 else 0) + (if t then 2 else 0)
theorem wv_or1 : ∀ o t, bOr (wv o t) 1 = wv true t := by decide
theorem wv_or2 : ∀ o t, bOr (wv o t) 2 = wv o true := by decide

theorem who_scan (B : Dm W H c) (hin : ∀ i : Nat, i < c.length → 0 ≤ geti c i ∧ geti c i ≤ 2) (k : Nat) : ∃ w, loop (stones_Areas_L2 c (grpL W c so1 k, brdL W c so1 k)) (0, 0) = some w ∧ Int.tmod w 3 = cls W c k := by
  classical
  have hsm := B.small
  have hbl : (brdL W c so1 k).length ≤ c.length := flen _ _
  have key := count_loop (step := stones_Areas_L2 c (grpL W c so1 k, brdL W c so1 k)) (fun (s : Bool × Bool) (z : Nat) => (wv s.1 s.2, (z : Int))) (fun n s => (s.1 = true ↔ ∃ q ∈ (brdL W c so1 k).take n, geti c q = 1) ∧ (s.2 = true ↔ ∃ q ∈ (brdL W c so1 k).take n, geti c q = 2)) (fun w => Int.tmod w 3 = cls W c k) (brdL W c so1 k).length (false, false) ⟨by simp, by simp⟩ (by
    rintro z ⟨o, t⟩ hz ⟨h1, h2⟩
    left
    have hg := get_geti hz
    obtain ⟨d, hd, hq, hB⟩ := brd_in _ (List.mem_of_getElem? hg)
    have e1 : stones_Areas_L2 c (grpL W c so1 k, brdL W c so1 k) (wv o t, (z : Int)) = stones_Areas_J8 c (grpL W c so1 k, brdL W c so1 k) (wv o t) z := if_pos (decide_eq_true (by simp only; omega))
    rw [e1]
    unfold stones_Areas_J8 stones_Areas_J9
    simp only at h1 h2 ⊢
    rw [asrt_pos (by omega), asrt_pos (by omega), w64_of (by omega), List.take_add_one, hg, hq]
    have hne : geti c d ≠ 0 := fun e => hB.1 (by show (geti c d == 0) = true; rw [e]; rfl)
    have hv : geti c d = 1 ∨ geti c d = 2 := by have := hin d hd; omega
    rcases hv with hv | hv
    · rw [hv, wv_or1]
      refine ⟨(true, t), rfl, ⟨fun _ => ⟨d, List.mem_append_right _ (by simp), hv⟩, fun _ => rfl⟩, ?_⟩
      simp only [h2, List.mem_append, Option.toList_some, List.mem_singleton]
      constructor
      · rintro ⟨q, h, h'⟩; exact ⟨q, Or.inl h, h'⟩
      · rintro ⟨q, h | h, h'⟩
        · exact ⟨q, h, h'⟩
        · rw [h, hv] at h'; omega
    · rw [hv, wv_or2]
      refine ⟨(o, true), rfl, ?_, ⟨fun _ => ⟨d, List.mem_append_right _ (by simp), hv⟩, fun _ => rfl⟩⟩
      simp only [h1, List.mem_append, Option.toList_some, List.mem_singleton]
      constructor
      · rintro ⟨q, h, h'⟩; exact ⟨q, Or.inl h, h'⟩
      · rintro ⟨q, h | h, h'⟩
        · exact ⟨q, h, h'⟩
        · rw [h, hv] at h'; omega) (by
    rintro ⟨o, t⟩ ⟨h1, h2⟩
    refine ⟨wv o t, ?_, ?_⟩
    · simp only [stones_Areas_L2]
      rw [if_neg (by simp)]
    · rw [List.take_length] at h1 h2
      have sd : ∀ v : Int, (∃ q ∈ brdL W c so1 k, geti c q = v) ↔ Side W c v k := by
        intro v
        constructor
        · rintro ⟨q, hq, hv⟩
          obtain ⟨d, hd, rfl, hB⟩ := brd_in _ hq
          exact ⟨d, hd, hB, hv⟩
        · rintro ⟨d, hd, hB, hv⟩
          exact ⟨d, mem_brd.2 ⟨hd, hB⟩, hv⟩
      simp only [sd] at h1 h2
      unfold cls
      cases o <;> cases t <;> simp only [Bool.false_eq_true, false_iff, true_iff] at h1 h2 <;> simp [h1, h2, wv])
  obtain ⟨r, hr, h⟩ := key
  exact ⟨r, hr, h⟩

/-- What has been counted for a side. -/
def Cnt (W : Int) (c : List Int) (n : Nat) (j : Int) (b : Nat) : Prop := (b < n ∧ 0 < geti c b ∧ geti c b = j) ∨ (Met W c so1 n b ∧ cls W c b = j)
theorem so1_iff {x : Int} : so1 x = true ↔ x = 0 := by unfold so1; exact beq_iff_eq
theorem cnt_stone {n : Nat} {j : Int} {b : Nat} (hn : 0 < geti c n) : Cnt W c (n + 1) j b ↔ Cnt W c n j b ∨ (b = n ∧ geti c n = j) := by
  have hF : ¬ Fst W c so1 n := fun h => by have := so1_iff.1 h.1.2; omega
  unfold Cnt
  rw [met_succ]
  constructor
  · rintro (⟨h1, h2⟩ | ⟨h1 | h1, h2⟩)
    · by_cases e : b = n
      · subst e; exact Or.inr ⟨rfl, h2.2⟩
      · exact Or.inl (Or.inl ⟨by omega, h2⟩)
    · exact Or.inl (Or.inr ⟨h1, h2⟩)
    · exact absurd h1.1 hF
  · rintro ((⟨h1, h2⟩ | ⟨h1, h2⟩) | ⟨rfl, h2⟩)
    · exact Or.inl ⟨by omega, h2⟩
    · exact Or.inr ⟨Or.inl h1, h2⟩
    · exact Or.inl ⟨by omega, hn, h2⟩
theorem cnt_old {n : Nat} {j : Int} {b : Nat} (hn : geti c n = 0) (hF : ¬ Fst W c so1 n) : Cnt W c (n + 1) j b ↔ Cnt W c n j b := by
  unfold Cnt
  rw [met_succ]
  constructor
  · rintro (⟨h1, h2⟩ | ⟨h1 | h1, h2⟩)
    · by_cases e : b = n
      · subst e; omega
      · exact Or.inl ⟨by omega, h2⟩
    · exact Or.inr ⟨h1, h2⟩
    · exact absurd h1.1 hF
  · rintro (⟨h1, h2⟩ | ⟨h1, h2⟩)
    · exact Or.inl ⟨by omega, h2⟩
    · exact Or.inr ⟨Or.inl h1, h2⟩
theorem cnt_new {n : Nat} {j : Int} {b : Nat} (hn : geti c n = 0) (hF : Fst W c so1 n) : Cnt W c (n + 1) j b ↔ Cnt W c n j b ∨ (Rch W c so1 n b ∧ cls W c n = j) := by
  unfold Cnt
  rw [met_succ]
  constructor
  · rintro (⟨h1, h2⟩ | ⟨h1 | h1, h2⟩)
    · by_cases e : b = n
      · subst e; omega
      · exact Or.inl (Or.inl ⟨by omega, h2⟩)
    · exact Or.inl (Or.inr ⟨h1, h2⟩)
    · exact Or.inr ⟨h1.2, by rw [← cls_rch hF.1 h1.2]; exact h2⟩
  · rintro ((⟨h1, h2⟩ | ⟨h1, h2⟩) | ⟨h1, h2⟩)
    · exact Or.inl ⟨by omega, h2⟩
    · exact Or.inr ⟨Or.inl h1, h2⟩
    · exact Or.inr ⟨Or.inr ⟨hF, h1⟩, by rw [cls_rch hF.1 h1]; exact h2⟩

theorem areas_p (B : Dm W H c) (hin : ∀ i : Nat, i < c.length → 0 ≤ geti c i ∧ geti c i ≤ 2) : stones_Areas_J1 W H c = some ((nR c.length (Cnt W c c.length 1) : Int), (nR c.length (Cnt W c c.length 2) : Int), (nR c.length (Cnt W c c.length 0) : Int), 0) := by
  classical
  have hsm := B.small
  unfold stones_Areas_J1
  rw [asrt_pos (by unfold bigN; omega), Int.toNat_natCast]
  have key := count_loop (step := stones_Areas_L1 W H c) (fun (s : List Int × List Bool) (i : Nat) => (s.1, s.2, (i : Int)))
    (fun n s => s.1.length = 4 ∧ s.2.length = c.length ∧ (∀ b : Nat, b < c.length → (getb s.2 b = true ↔ Met W c so1 n b)) ∧ ∀ j : Nat, j ≤ 2 → geti s.1 j = (nR c.length (Cnt W c n j) : Int))
    (fun m => ∀ j : Nat, j ≤ 2 → geti m j = (nR c.length (Cnt W c c.length j) : Int)) c.length (List.replicate 4 0, List.replicate c.length false) ⟨by simp, by simp, fun b hb => by
      rw [getb_some (by rw [List.getElem?_replicate, if_pos hb])]
      constructor
      · intro h; cases h
      · rintro ⟨j, h, _⟩; omega, fun j hj => by
      have e : nR c.length (Cnt W c 0 j) = 0 := by
        rw [nR_congr (B := fun _ => False) c.length (fun b _ => ⟨fun h => by
          rcases h with ⟨h, _⟩ | ⟨⟨i, h, _⟩, _⟩ <;> omega, fun h => h.elim⟩), nR_false]
      rw [e, geti_some (by rw [List.getElem?_replicate, if_pos (by omega)])]; rfl⟩ (by
    rintro i ⟨many, done⟩ hi ⟨h1, h2, h3, h4⟩
    left
    simp only at h1 h2 h3 h4 ⊢
    have hb := hin i hi
    have e1 : stones_Areas_L1 W H c (many, done, (i : Int)) = stones_Areas_J3 W H c many done i := if_pos (decide_eq_true (by omega))
    rw [e1]
    unfold stones_Areas_J3
    rw [asrt_pos (by omega)]
    have hle := fun j => nR_le c.length (Cnt W c i j)
    by_cases q : 0 < geti c i
    · rw [if_pos (decide_eq_true q), asrt_pos (by omega), asrt_pos (by omega), asrt_pos (by omega)]
      unfold stones_Areas_J4
      obtain ⟨x, hx⟩ : ∃ x : Nat, geti c i = x := ⟨(geti c i).toNat, by omega⟩
      have h4x := h4 x (by omega)
      have hlx := hle x
      rw [hx, w64_of (by rw [h4x]; omega), w64_of (x := (i : Int) + 1) (by omega), Int.toNat_natCast]
      have hF : ¬ Fst W c so1 i := fun h => by have := so1_iff.1 h.1.2; omega
      refine ⟨(many.set x (geti many x + 1), done), rfl, by simpa using h1, h2, fun b hb => ?_, fun j hj => ?_⟩
      · rw [h3 b hb, met_succ]
        exact ⟨Or.inl, fun h => h.elim id (fun h => absurd h.1 hF)⟩
      · simp only
        rw [geti_set' (by omega) (by omega), nR_congr c.length (fun b _ => cnt_stone q)]
        by_cases e : j = x
        · subst e
          rw [if_pos rfl, h4 j hj, filt_or (B := fun b => b = i ∧ geti c i = j) (by
            rintro b hc ⟨rfl, _⟩
            rcases hc with ⟨h, _⟩ | ⟨h, _⟩
            · omega
            · have := so1_iff.1 (met_mk h).2
              omega)]
          rw [nR_congr (A := fun b => b = i ∧ geti c i = j) (B := fun b => b = i) c.length (fun b _ => ⟨fun h => h.1, fun h => ⟨h, hx⟩⟩), nR_one hi]
          omega
        · rw [if_neg (by omega), h4 j hj]
          congr 1
          refine nR_congr c.length fun b _ => ⟨Or.inl, fun h => h.elim id (fun h => ?_)⟩
          have := h.2
          omega
    · have q0 : geti c i = 0 := by omega
      rw [if_neg (by simpa using q)]
      unfold stones_Areas_J5
      rw [Int.toNat_natCast, asrt_pos (by omega)]
      have hMk : Mk c so1 i := ⟨hi, so1_iff.2 q0⟩
      by_cases hd : getb done i = true
      · rw [if_pos hd]
        have hF : ¬ Fst W c so1 i := fun h => (fst_iff.1 h).2 ((h3 i hi).1 hd)
        unfold stones_Areas_J4
        rw [w64_of (by omega)]
        refine ⟨(many, done), rfl, h1, h2, fun b hb => ?_, fun j hj => ?_⟩
        · rw [h3 b hb, met_succ]
          exact ⟨Or.inl, fun h => h.elim id (fun h => absurd h.1 hF)⟩
        · rw [h4 j hj, nR_congr c.length (fun b _ => cnt_old q0 hF)]
      · rw [if_neg hd]
        have hF : Fst W c so1 i := fst_iff.2 ⟨hMk, fun h => hd ((h3 i hi).2 h)⟩
        unfold stones_Areas_J6
        rw [spread_p_1 B hi (so1_iff.2 q0), Option.bind_some]
        obtain ⟨w, w1, w2⟩ := who_scan B hin i
        rw [w1, Option.bind_some]
        simp only [stones_Areas_K2]
        unfold stones_Areas_J7
        have hgl : (grpL W c so1 i).length ≤ c.length := flen _ _
        obtain ⟨d, d1, d2, d3⟩ := markall (step := stones_Areas_L3 c (grpL W c so1 i, brdL W c so1 i)) (l := grpL W c so1 i) (N := c.length) (fun q hq => by
          obtain ⟨b, hb, e, _⟩ := grp_in q hq
          exact ⟨b, hb, e⟩) (fun d z hd hz => by
          have e2 : stones_Areas_L3 c (grpL W c so1 i, brdL W c so1 i) (d, (z : Int)) = stones_Areas_J11 c (grpL W c so1 i, brdL W c so1 i) d z := if_pos (decide_eq_true (by simp only; omega))
          obtain ⟨b, hb, hq, _⟩ := grp_in _ (List.mem_of_getElem? (get_geti hz))
          rw [e2]
          unfold stones_Areas_J11 stones_Areas_J12
          simp only
          rw [Int.toNat_natCast, asrt_pos (by omega), asrt_pos (by omega), w64_of (by omega)]
          rfl) (fun d => by
          simp only [stones_Areas_L3]
          rw [if_neg (by simp)]) h2
        rw [d1, Option.bind_some]
        simp only [stones_Areas_K3]
        unfold stones_Areas_J10 stones_Areas_J4
        have hcb := cls_bd (W := W) (c := c) i
        rw [w2, asrt_pos (by omega), asrt_pos (by omega), asrt_pos (by omega)]
        obtain ⟨x, hx⟩ : ∃ x : Nat, cls W c i = x := ⟨(cls W c i).toNat, by omega⟩
        have h4x := h4 x (by omega)
        have hlx := hle x
        simp only
        rw [hx, w64_of (by rw [h4x]; omega), w64_of (x := (i : Int) + 1) (by omega), Int.toNat_natCast]
        refine ⟨(many.set x (geti many x + (grpL W c so1 i).length), d), rfl, by simpa using h1, d2, fun b hb => ?_, fun j hj => ?_⟩
        · rw [d3 b hb, h3 b hb, met_succ]
          constructor
          · rintro (h | h)
            · exact Or.inl h
            · exact Or.inr ⟨hF, (mem_grp.1 h).2⟩
          · rintro (h | h)
            · exact Or.inl h
            · exact Or.inr (mem_grp.2 ⟨hb, h.2⟩)
        · simp only
          rw [geti_set' (by omega) (by omega), nR_congr c.length (fun b _ => cnt_new q0 hF)]
          by_cases e : j = x
          · subst e
            rw [if_pos rfl, h4 j hj, filt_or (B := fun b => Rch W c so1 i b ∧ cls W c i = j) (by
              rintro b hc ⟨hr, _⟩
              have hb0 := so1_iff.1 (rch_mk hMk hr).2
              rcases hc with ⟨_, h, _⟩ | ⟨⟨k, k1, k2, k3⟩, _⟩
              · omega
              · exact (fst_iff.1 hF).2 ⟨k, k1, k2, k3.trans (rch_symm hMk hr)⟩)]
            rw [nR_congr (A := fun b => Rch W c so1 i b ∧ cls W c i = j) (B := Rch W c so1 i) c.length (fun b _ => ⟨fun h => h.1, fun h => ⟨h, hx⟩⟩), grp_len]
            omega
          · rw [if_neg (by omega), h4 j hj]
            congr 1
            refine nR_congr c.length fun b _ => ⟨Or.inl, fun h => h.elim id (fun h => ?_)⟩
            have := h.2
            omega) (by
    rintro ⟨many, done⟩ ⟨h1, h2, h3, h4⟩
    refine ⟨many, ?_, h4⟩
    simp only [stones_Areas_L1]
    rw [if_neg (by simp)])
  obtain ⟨m, hm, h⟩ := key
  have hm' : loop (stones_Areas_L1 W H c) (List.replicate 4 0, List.replicate c.length false, 0) = some m := hm
  rw [hm', Option.bind_some]
  simp only [stones_Areas_K1]
  unfold stones_Areas_J2
  rw [asrt_pos (by omega), asrt_pos (by omega), asrt_pos (by omega)]
  have g0 : geti m 0 = (nR c.length (Cnt W c c.length 0) : Int) := h 0 (by omega)
  have g1 : geti m 1 = (nR c.length (Cnt W c c.length 1) : Int) := h 1 (by omega)
  have g2 : geti m 2 = (nR c.length (Cnt W c c.length 2) : Int) := h 2 (by omega)
  rw [g0, g1, g2]

/-- What a place counts for. -/
def Own (W : Int) (c : List Int) (j : Int) (b : Nat) : Prop := (0 < geti c b ∧ geti c b = j) ∨ (geti c b = 0 ∧ cls W c b = j)
theorem own_cnt {j : Int} : nR c.length (Cnt W c c.length j) = nR c.length (Own W c j) := nR_congr _ fun b hb => by
  unfold Cnt Own
  constructor
  · rintro (⟨_, h1, h2⟩ | ⟨h1, h2⟩)
    · exact Or.inl ⟨h1, h2⟩
    · exact Or.inr ⟨so1_iff.1 (met_mk h1).2, h2⟩
  · rintro (⟨h1, h2⟩ | ⟨h1, h2⟩)
    · exact Or.inl ⟨hb, h1, h2⟩
    · exact Or.inr ⟨met_all ⟨hb, so1_iff.2 h1⟩, h2⟩

theorem signs_r (B : Dm W H c) {i : Nat} (hi : i < c.length) {r : List Bool} (r2 : r.length = c.length) (r3 : ∀ b : Nat, b < c.length → (getb r b = true ↔ Rch W c so1 i b)) : ∃ o t : Bool, loop (gameroomref_AreasOf_L2 W H c r) (false, false, 0) = some (o, t) ∧ (o = true ↔ Side W c 1 i) ∧ (t = true ↔ Side W c 2 i) := by
  classical
  have hsm := B.small
  have key := count_loop (step := gameroomref_AreasOf_L2 W H c r) (fun (s : Bool × Bool) (k : Nat) => (s.1, s.2, (k : Int))) (fun n s => (s.1 = true ↔ ∃ d : Nat, d < n ∧ Brd W c so1 i d ∧ geti c d = 1) ∧ (s.2 = true ↔ ∃ d : Nat, d < n ∧ Brd W c so1 i d ∧ geti c d = 2)) (fun s => (s.1 = true ↔ Side W c 1 i) ∧ (s.2 = true ↔ Side W c 2 i)) c.length (false, false) ⟨by simp, by simp⟩ (by
    rintro k ⟨o, t⟩ hk ⟨h1, h2⟩
    left
    simp only at h1 h2 ⊢
    have e1 : gameroomref_AreasOf_L2 W H c r (o, t, (k : Int)) = gameroomref_AreasOf_J7 W H c r o t k := if_pos (decide_eq_true (by omega))
    rw [e1]
    unfold gameroomref_AreasOf_J7 gameroomref_AreasOf_J8
    rw [asrt_pos (by omega), any_r B r2 r3 hk, w64_of (by omega)]
    have sp : ∀ (P : Nat → Prop), (∃ d : Nat, d < k + 1 ∧ P d) ↔ (∃ d : Nat, d < k ∧ P d) ∨ P k := by
      intro P
      constructor
      · rintro ⟨d, hd, h⟩
        by_cases e : d = k
        · subst e; exact Or.inr h
        · exact Or.inl ⟨d, by omega, h⟩
      · rintro (⟨d, hd, h⟩ | h)
        · exact ⟨d, by omega, h⟩
        · exact ⟨k, by omega, h⟩
    rw [sp, sp, ← h1, ← h2]
    by_cases q : 0 < geti c k ∧ ∃ a : Nat, a < c.length ∧ Rch W c so1 i a ∧ Adj W a k
    · obtain ⟨q1, q2⟩ := q
      rw [decide_eq_true q1, if_pos rfl, Option.bind_some, decide_eq_true q2, if_pos (by rfl), asrt_pos (fun _ => by omega), asrt_pos (fun _ => by omega)]
      have hB : Brd W c so1 i k := by
        obtain ⟨a, _, h⟩ := q2
        exact ⟨fun e => by have := so1_iff.1 e; omega, a, h⟩
      refine ⟨(o || (geti c k == 1), t || (geti c k == 2)), rfl, ?_, ?_⟩
      · simp only [Bool.or_eq_true, beq_iff_eq]
        exact ⟨fun h => h.elim Or.inl (fun h => Or.inr ⟨hB, h⟩), fun h => h.elim Or.inl (fun h => Or.inr h.2)⟩
      · simp only [Bool.or_eq_true, beq_iff_eq]
        exact ⟨fun h => h.elim Or.inl (fun h => Or.inr ⟨hB, h⟩), fun h => h.elim Or.inl (fun h => Or.inr h.2)⟩
    · have hz : ∀ v : Int, 0 < v → ¬ (Brd W c so1 i k ∧ geti c k = v) := by
        rintro v hv ⟨⟨_, a, h3, h4⟩, h2⟩
        exact q ⟨by omega, a, rch_lt hi h3, h3, h4⟩
      refine ⟨(o, t), ?_, ?_, ?_⟩
      · by_cases q1 : 0 < geti c k
        · rw [decide_eq_true q1, if_pos rfl, Option.bind_some, decide_eq_false (fun h => q ⟨q1, h⟩)]
          rfl
        · rw [decide_eq_false q1]; rfl
      · exact ⟨Or.inl, fun h => h.elim id (fun h => absurd h (hz 1 (by omega)))⟩
      · exact ⟨Or.inl, fun h => h.elim id (fun h => absurd h (hz 2 (by omega)))⟩) (by
    rintro ⟨o, t⟩ ⟨h1, h2⟩
    refine ⟨(o, t), ?_, h1, h2⟩
    simp only [gameroomref_AreasOf_L2]
    rw [if_neg (by simp; omega)])
  obtain ⟨⟨o, t⟩, hr, h⟩ := key
  exact ⟨o, t, hr, h⟩

theorem areas_r (B : Dm W H c) (hin : ∀ i : Nat, i < c.length → 0 ≤ geti c i ∧ geti c i ≤ 2) : ∃ o : List Int, gameroomref_AreasOf_m W H c = some o ∧ o.length = 3 ∧ geti o 0 = (nR c.length (Own W c 1) : Int) ∧ geti o 1 = (nR c.length (Own W c 2) : Int) ∧ geti o 2 = (nR c.length (Own W c 0) : Int) := by
  classical
  have hsm := B.small
  unfold gameroomref_AreasOf_m
  have key := count_loop (step := gameroomref_AreasOf_L1 W H c) (fun (s : List Int) (i : Nat) => (s, (i : Int))) (fun n o => o.length = 3 ∧ geti o 0 = (nR n (Own W c 1) : Int) ∧ geti o 1 = (nR n (Own W c 2) : Int) ∧ geti o 2 = (nR n (Own W c 0) : Int)) (fun o => o.length = 3 ∧ geti o 0 = (nR c.length (Own W c 1) : Int) ∧ geti o 1 = (nR c.length (Own W c 2) : Int) ∧ geti o 2 = (nR c.length (Own W c 0) : Int)) c.length [0, 0, 0] ⟨rfl, rfl, rfl, rfl⟩ (by
    rintro i o hi ⟨h1, h2, h3, h4⟩
    left
    have hb := hin i hi
    have l1 := nR_le i (Own W c 1)
    have l2 := nR_le i (Own W c 2)
    have l0 := nR_le i (Own W c 0)
    have e1 : gameroomref_AreasOf_L1 W H c (o, (i : Int)) = gameroomref_AreasOf_J2 W H c o i := if_pos (decide_eq_true (by omega))
    rw [e1]
    unfold gameroomref_AreasOf_J2
    rw [asrt_pos (by omega), nR_succ, nR_succ, nR_succ]
    have g : ∀ (x : Nat) (v : Int) (j : Nat), x < 3 → geti (o.set x v) (j : Int) = if j = x then v else geti o (j : Int) := by
      intro x v j hx
      rw [geti_set' (by omega) (by omega)]
      by_cases e : j = x
      · rw [if_pos e, if_pos (by omega)]
      · rw [if_neg e, if_neg (by omega)]
    have fin : ∀ x : Nat, x < 3 → (Own W c 1 i ↔ x = 0) → (Own W c 2 i ↔ x = 1) → (Own W c 0 i ↔ x = 2) →
        (o.set x (geti o x + 1)).length = 3 ∧ geti (o.set x (geti o x + 1)) 0 = ((nR i (Own W c 1) + (if Own W c 1 i then 1 else 0) : Nat) : Int) ∧ geti (o.set x (geti o x + 1)) 1 = ((nR i (Own W c 2) + (if Own W c 2 i then 1 else 0) : Nat) : Int) ∧ geti (o.set x (geti o x + 1)) 2 = ((nR i (Own W c 0) + (if Own W c 0 i then 1 else 0) : Nat) : Int) := by
      intro x hx a1 a2 a0
      have g0 := g x (geti o x + 1) 0 hx
      have g1 := g x (geti o x + 1) 1 hx
      have g2 := g x (geti o x + 1) 2 hx
      refine ⟨by rw [List.length_set]; exact h1, g0.trans ?_, g1.trans ?_, g2.trans ?_⟩
      · by_cases e : x = 0
        · subst e; rw [if_pos rfl, if_pos (a1.2 rfl)]; have : geti o ((0 : Nat) : Int) = geti o 0 := rfl; omega
        · rw [if_neg (by omega), if_neg (fun h => e (a1.1 h))]; exact h2
      · by_cases e : x = 1
        · subst e; rw [if_pos rfl, if_pos (a2.2 rfl)]; have : geti o ((1 : Nat) : Int) = geti o 1 := rfl; omega
        · rw [if_neg (by omega), if_neg (fun h => e (a2.1 h))]; exact h3
      · by_cases e : x = 2
        · subst e; rw [if_pos rfl, if_pos (a0.2 rfl)]; have : geti o ((2 : Nat) : Int) = geti o 2 := rfl; omega
        · rw [if_neg (by omega), if_neg (fun h => e (a0.1 h))]; exact h4
    have wx : ∀ x : Nat, x < 3 → w64 (geti o x + 1) = geti o x + 1 := by
      intro x hx
      have : geti o x ≤ 300 ∧ 0 ≤ geti o x := by
        have hx' : x = 0 ∨ x = 1 ∨ x = 2 := by omega
        rcases hx' with e | e | e <;> subst e
        · have : geti o ((0 : Nat) : Int) = geti o 0 := rfl; omega
        · have : geti o ((1 : Nat) : Int) = geti o 1 := rfl; omega
        · have : geti o ((2 : Nat) : Int) = geti o 2 := rfl; omega
      exact w64_of (by omega)
    by_cases q : 0 < geti c i
    · rw [if_pos (decide_eq_true q), asrt_pos (by omega)]
      obtain ⟨x, hx⟩ : ∃ x : Nat, geti c i = x + 1 := ⟨(geti c i - 1).toNat, by omega⟩
      have ex : w64 (geti c i - 1) = x := by rw [w64_of (by omega)]; omega
      rw [ex, asrt_pos (by omega), asrt_pos (by omega)]
      unfold gameroomref_AreasOf_J3
      rw [wx x (by omega), w64_of (x := (i : Int) + 1) (by omega), Int.toNat_natCast]
      refine ⟨_, rfl, fin x (by omega) ?_ ?_ ?_⟩ <;> (unfold Own; omega)
    · have q0 : geti c i = 0 := by omega
      rw [if_neg (by simpa using q)]
      unfold gameroomref_AreasOf_J4
      obtain ⟨m, m1, m2, m3⟩ := marks_r B 0 false
      have hm : m.length = c.length ∧ ∀ b : Nat, b < c.length → (getb m b = true ↔ so1 (geti c b) = true) := ⟨m2, fun b hb => by rw [m3 b hb]; unfold so1; simp⟩
      obtain ⟨r, r1, r2, r3⟩ := region_r B hi hm
      rw [m1, Option.bind_some, r1, Option.bind_some]
      unfold gameroomref_AreasOf_J5
      obtain ⟨o', t', s1, s2, s3⟩ := signs_r B hi r2 r3
      rw [s1, Option.bind_some]
      simp only [gameroomref_AreasOf_K2]
      unfold gameroomref_AreasOf_J6 gameroomref_AreasOf_J3
      rw [w64_of (x := (i : Int) + 1) (by omega)]
      have ow : ∀ j : Int, Own W c j i ↔ cls W c i = j := by
        intro j; unfold Own
        exact ⟨fun h => h.elim (fun h => by omega) (fun h => h.2), fun h => Or.inr ⟨q0, h⟩⟩
      by_cases c1 : (o' && !t') = true
      · have hc : cls W c i = 1 := by
          rw [Bool.and_eq_true, Bool.not_eq_true'] at c1
          unfold cls
          rw [if_pos (s2.1 c1.1), if_neg (fun h => by rw [s3.2 h] at c1; exact absurd c1.2 (by decide))]
        rw [if_pos c1, asrt_pos (by omega), asrt_pos (by omega)]
        have := wx 0 (by omega)
        refine ⟨o.set 0 (geti o ((0 : Nat) : Int) + 1), ?_, fin 0 (by omega) ?_ ?_ ?_⟩
        · have w0 : w64 (geti o 0 + 1) = geti o 0 + 1 := this
          rw [w0]; rfl
        · rw [ow, hc]; omega
        · rw [ow, hc]; omega
        · rw [ow, hc]; omega
      · by_cases c2 : (t' && !o') = true
        · have hc : cls W c i = 2 := by
            rw [Bool.and_eq_true, Bool.not_eq_true'] at c2
            unfold cls
            rw [if_neg (fun h => by rw [s2.2 h] at c2; exact absurd c2.2 (by decide)), if_pos (s3.1 c2.1)]
          rw [if_neg c1, if_pos c2, asrt_pos (by omega), asrt_pos (by omega)]
          have := wx 1 (by omega)
          refine ⟨o.set 1 (geti o ((1 : Nat) : Int) + 1), ?_, fin 1 (by omega) ?_ ?_ ?_⟩
          · have w0 : w64 (geti o 1 + 1) = geti o 1 + 1 := this
            rw [w0]; rfl
          · rw [ow, hc]; omega
          · rw [ow, hc]; omega
          · rw [ow, hc]; omega
        · have hc : cls W c i = 0 := by
            unfold cls
            cases o' <;> cases t' <;> simp_all
          rw [if_neg c1, if_neg c2, asrt_pos (by omega), asrt_pos (by omega)]
          have := wx 2 (by omega)
          refine ⟨o.set 2 (geti o ((2 : Nat) : Int) + 1), ?_, fin 2 (by omega) ?_ ?_ ?_⟩
          · have w0 : w64 (geti o 2 + 1) = geti o 2 + 1 := this
            rw [w0]; rfl
          · rw [ow, hc]; omega
          · rw [ow, hc]; omega
          · rw [ow, hc]; omega) (by
    rintro o h
    refine ⟨o, ?_, h⟩
    simp only [gameroomref_AreasOf_L1]
    rw [if_neg (by simp)])
  obtain ⟨o, hr, h⟩ := key
  have hr' : loop (gameroomref_AreasOf_L1 W H c) ([0, 0, 0], 0) = some o := hr
  rw [hr', Option.bind_some]
  exact ⟨o, rfl, h⟩
end
end Go.Proofs.Ytdjjomghggplpaa
