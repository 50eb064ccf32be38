/-
  Words: codes that are alike, on both sides.
-/
import Derived.Test.YtdbdcbejmbpbmaaDoorWC
namespace Go.Proofs.YtdbdcbejmbpbmaaDoor
open Go Go.GL

/-- A sum over keys. -/
def SM (D : List Int) (f : Int → Nat) : Nat := (D.map f).sum
theorem SM_congr {f g : Int → Nat} : ∀ {D : List Int}, (∀ d ∈ D, f d = g d) → SM D f = SM D g
  | [], _ => rfl
  | d :: D, h => by
    have ih := SM_congr (D := D) (fun x hx => h x (List.mem_cons_of_mem _ hx))
    unfold SM at ih ⊢
    rw [List.map_cons, List.map_cons, List.sum_cons, List.sum_cons, ih, h d (List.mem_cons_self ..)]
theorem SM_inc {f g : Int → Nat} {c : Int} : ∀ {D : List Int}, D.Nodup → c ∈ D → (∀ d, d ≠ c → f d = g d) → g c = f c + 1 → SM D g = SM D f + 1
  | [], _, h, _, _ => by cases h
  | d :: D, hn, hc, he, h1 => by
    have hnd := List.nodup_cons.1 hn
    have e : SM (d :: D) g = g d + SM D g := by unfold SM; rw [List.map_cons, List.sum_cons]
    have e' : SM (d :: D) f = f d + SM D f := by unfold SM; rw [List.map_cons, List.sum_cons]
    rw [e, e']
    by_cases q : d = c
    · subst q
      have : SM D f = SM D g := SM_congr (fun x hx => he x (fun e => hnd.1 (by rw [← e]; exact hx)))
      omega
    · have hc' : c ∈ D := by
        rcases List.mem_cons.1 hc with h | h
        · exact absurd h.symm q
        · exact h
      have := SM_inc hnd.2 hc' he h1
      have := he d q
      omega
theorem SM_add {f g h : Int → Nat} : ∀ {D : List Int}, (∀ d ∈ D, h d = f d + g d) → SM D h = SM D f + SM D g
  | [], _ => rfl
  | d :: D, hh => by
    have ih := SM_add (f := f) (g := g) (h := h) (D := D) (fun x hx => hh x (List.mem_cons_of_mem _ hx))
    have := hh d (List.mem_cons_self ..)
    unfold SM at ih ⊢
    rw [List.map_cons, List.map_cons, List.map_cons, List.sum_cons, List.sum_cons, List.sum_cons]
    omega
theorem SM_zero : ∀ (D : List Int), SM D (fun _ => 0) = 0
  | [] => rfl
  | d :: D => by
    have := SM_zero D
    unfold SM at this ⊢
    rw [List.map_cons, List.sum_cons, this]
theorem keys_of : ∀ l : List Int, ∃ D : List Int, D.Nodup ∧ ∀ x ∈ l, x ∈ D
  | [] => ⟨[], by simp, fun x h => h⟩
  | x :: l => by
    obtain ⟨D, h1, h2⟩ := keys_of l
    by_cases q : x ∈ D
    · exact ⟨D, h1, fun y hy => by rcases List.mem_cons.1 hy with h | h; rw [h]; exact q; exact h2 y h⟩
    · exact ⟨x :: D, List.nodup_cons.2 ⟨q, h1⟩, fun y hy => by rcases List.mem_cons.1 hy with h | h; rw [h]; exact List.mem_cons_self ..; exact List.mem_cons_of_mem _ (h2 y h)⟩

section
variable {a b : List Int} {D : List Int}
/-- Counts. -/
noncomputable def cu (a b : List Int) (n : Nat) (c : Int) : Nat := nR n (fun k => geti a k ≠ geti b k ∧ geti a k = c)
noncomputable def gu (a b : List Int) (n : Nat) (c : Int) : Nat := nR n (fun k => geti a k ≠ geti b k ∧ geti b k = c)
noncomputable def cc (a : List Int) (n : Nat) (c : Int) : Nat := nR n (fun k => geti a k = c)
noncomputable def mc (a b : List Int) (n : Nat) (c : Int) : Nat := nR n (fun k => geti a k = geti b k ∧ geti a k = c)
noncomputable def mt (a b : List Int) (n : Nat) : Nat := nR n (fun k => geti a k = geti b k)

theorem cc_split (n : Nat) (c : Int) : cc a n c = cu a b n c + mc a b n c := by
  unfold cc cu mc
  rw [← filt_or (fun k h1 h2 => h1.1 h2.1)]
  exact nR_congr n fun k _ => ⟨fun h => by
    by_cases q : geti a k = geti b k
    · exact Or.inr ⟨q, h⟩
    · exact Or.inl ⟨q, h⟩, fun h => h.elim (fun h => h.2) (fun h => h.2)⟩
theorem cg_split (n : Nat) (c : Int) : cc b n c = gu a b n c + mc a b n c := by
  unfold cc gu mc
  rw [← filt_or (fun k h1 h2 => h1.1 h2.1)]
  exact nR_congr n fun k _ => ⟨fun h => by
    by_cases q : geti a k = geti b k
    · exact Or.inr ⟨q, q.trans h⟩
    · exact Or.inl ⟨q, h⟩, fun h => h.elim (fun h => h.2) (fun h => h.1.symm.trans h.2)⟩
theorem mt_sum (hD : D.Nodup) : ∀ n : Nat, (∀ k : Nat, k < n → geti a k ∈ D) → SM D (mc a b n) = mt a b n
  | 0, _ => SM_zero D
  | n + 1, h => by
    classical
    have ih := mt_sum hD n (fun k hk => h k (by omega))
    unfold mt
    rw [nR_succ]
    by_cases q : geti a n = geti b n
    · rw [if_pos q, SM_inc (f := mc a b n) (g := mc a b (n + 1)) (c := geti a n) hD (h n (by omega)) (fun d hd => by
        unfold mc
        rw [nR_succ, if_neg (fun h => hd h.2.symm)]; rfl) (by
        unfold mc
        rw [nR_succ, if_pos ⟨q, rfl⟩]), ih]; rfl
    · rw [if_neg q, SM_congr (g := mc a b n) (fun d _ => by
        unfold mc
        rw [nR_succ, if_neg (fun h => q h.1)]; rfl), ih]; rfl

theorem codes1 (hab : a.length = b.length) (h8 : a.length ≤ 8) : ∃ left, loop (words_Codes_L1 a b) ([], 0, 0) = some (left, (mt a b a.length : Int)) ∧ ∀ c, mget (0 : Int) c left = (cu a b a.length c : Int) := by
  classical
  have key := count_loop (step := words_Codes_L1 a b) (fun (s : List (Int × Int) × Nat) (i : Nat) => (s.1, (s.2 : Int), (i : Int)))
    (fun n s => s.2 = mt a b n ∧ ∀ c, mget (0 : Int) c s.1 = (cu a b n c : Int)) (fun r => r.2 = (mt a b a.length : Int) ∧ ∀ c, mget (0 : Int) c r.1 = (cu a b a.length c : Int)) a.length ([], 0) ⟨rfl, fun c => rfl⟩ (by
    rintro i ⟨l, m⟩ hi ⟨h1, h2⟩
    left
    simp only at h1 h2 ⊢
    have hle := nR_le i (fun k => geti a k = geti b k)
    have hm : mt a b i ≤ i := hle
    have e1 : words_Codes_L1 a b (l, (m : Int), (i : Int)) = words_Codes_J3 a b l m i := if_pos (decide_eq_true (by omega))
    rw [e1]
    unfold words_Codes_J3 words_Codes_J4
    rw [asrt_pos (by omega), asrt_pos (by omega), w64_of (x := (i : Int) + 1) (by omega)]
    by_cases q : geti a i = geti b i
    · rw [if_pos (beq_iff_eq.2 q.symm), w64_of (by omega)]
      refine ⟨(l, m + 1), rfl, ?_, fun c => ?_⟩
      · unfold mt; rw [nR_succ, if_pos q]; simp only; rw [h1]; rfl
      · unfold cu; rw [nR_succ, if_neg (fun h => h.1 q)]; exact h2 c
    · have hc := nR_le i (fun k => geti a k ≠ geti b k ∧ geti a k = geti a i)
      have hc' : cu a b i (geti a i) ≤ i := hc
      rw [if_neg (by rw [beq_iff_eq]; exact fun e => q e.symm), h2, w64_of (by omega)]
      refine ⟨(mput (geti a i) ((cu a b i (geti a i) : Int) + 1) l, m), rfl, ?_, fun c => ?_⟩
      · unfold mt; rw [nR_succ, if_neg q]; simp only; rw [h1]; rfl
      · simp only
        rw [mget_mput]
        unfold cu
        rw [nR_succ]
        by_cases e : c = geti a i
        · subst e; rw [if_pos rfl, if_pos ⟨q, rfl⟩]; rfl
        · rw [if_neg e, if_neg (fun h => e h.2.symm)]; exact h2 c) (by
    rintro ⟨l, m⟩ ⟨h1, h2⟩
    refine ⟨(l, (m : Int)), ?_, by simp only; rw [← h1], h2⟩
    simp only [words_Codes_L1]
    rw [if_neg (by simp)])
  obtain ⟨⟨l, m⟩, hr, h1, h2⟩ := key
  simp only at h1
  subst h1
  exact ⟨l, hr, h2⟩

theorem codes2 (hab : a.length = b.length) (h8 : a.length ≤ 8) (hD : D.Nodup) (hb : ∀ k : Nat, k < b.length → geti b k ∈ D) {left : List (Int × Int)} (hl : ∀ c, mget (0 : Int) c left = (cu a b a.length c : Int)) :
    loop (words_Codes_L2 a b) (left, 0, 0) = some (SM D (fun c => min (cu a b a.length c) (gu a b a.length c)) : Int) := by
  classical
  have key := count_loop (step := words_Codes_L2 a b) (fun (s : List (Int × Int) × Nat) (i : Nat) => (s.1, (s.2 : Int), (i : Int)))
    (fun n s => s.2 = SM D (fun c => min (cu a b a.length c) (gu a b n c)) ∧ s.2 ≤ n ∧ ∀ c, mget (0 : Int) c s.1 = ((cu a b a.length c - gu a b n c : Nat) : Int)) (fun r => r = (SM D (fun c => min (cu a b a.length c) (gu a b a.length c)) : Int)) a.length (left, 0) ⟨by
      rw [SM_congr (g := fun _ => 0) (fun d _ => by simp [gu, nR_zero]), SM_zero], by simp, fun c => by rw [hl c]; simp [gu, nR_zero]⟩ (by
    rintro i ⟨l, m⟩ hi ⟨h1, h3, h2⟩
    left
    simp only at h1 h2 h3 ⊢
    have e1 : words_Codes_L2 a b (l, (m : Int), (i : Int)) = words_Codes_J6 a b l m i := if_pos (decide_eq_true (by omega))
    rw [e1]
    unfold words_Codes_J6 words_Codes_J8 words_Codes_J7
    rw [asrt_pos (by omega), asrt_pos (by omega), w64_of (x := (i : Int) + 1) (by omega)]
    have hcu : cu a b a.length (geti b i) ≤ a.length := nR_le _ _
    rw [h2 (geti b i)]
    by_cases q : geti a i = geti b i
    · have ne : (geti a (i : Int) != geti b (i : Int)) = false := by simpa using q
      rw [ne, if_neg (by decide)]
      have hg : ∀ c, gu a b (i + 1) c = gu a b i c := fun c => by
        unfold gu; rw [nR_succ, if_neg (fun h => h.1 q)]; rfl
      refine ⟨(l, m), rfl, ?_, by simp only; omega, fun c => by rw [hg c]; exact h2 c⟩
      simp only; rw [h1]
      exact SM_congr fun d _ => by rw [hg d]
    · have ne : (geti a (i : Int) != geti b (i : Int)) = true := by simpa using q
      rw [ne, if_pos rfl, Bool.true_and]
      have hg : gu a b (i + 1) (geti b i) = gu a b i (geti b i) + 1 := by
        unfold gu; rw [nR_succ, if_pos ⟨q, rfl⟩]
      have hg' : ∀ c, c ≠ geti b i → gu a b (i + 1) c = gu a b i c := fun c hc => by
        unfold gu; rw [nR_succ, if_neg (fun h => hc h.2.symm)]; rfl
      by_cases z : gu a b i (geti b i) < cu a b a.length (geti b i)
      · rw [if_pos (decide_eq_true (by omega)), w64_of (by omega), w64_of (by omega)]
        refine ⟨(mput (geti b i) (((cu a b a.length (geti b i) - gu a b i (geti b i) : Nat) : Int) - 1) l, m + 1), rfl, ?_, by simp only; omega, fun c => ?_⟩
        · simp only
          rw [h1]
          refine (SM_inc (c := geti b i) hD (hb i (by omega)) (fun d hd => by rw [hg' d hd]) (by rw [hg]; omega)).symm
        · simp only
          rw [mget_mput]
          by_cases e : c = geti b i
          · subst e; rw [if_pos rfl, hg]; omega
          · rw [if_neg e, h2 c, hg' c e]
      · rw [if_neg (by rw [decide_eq_true_eq]; omega)]
        refine ⟨(l, m), rfl, ?_, by simp only; omega, fun c => ?_⟩
        · simp only
          rw [h1]
          refine SM_congr fun d _ => ?_
          by_cases e : d = geti b i
          · subst e; rw [hg]; omega
          · rw [hg' d e]
        · simp only
          rw [h2 c]
          by_cases e : c = geti b i
          · subst e; rw [hg]; omega
          · rw [hg' c e]) (by
    rintro ⟨l, m⟩ ⟨h1, _, h2⟩
    refine ⟨(m : Int), ?_, by simp only at h1; rw [h1]⟩
    simp only [words_Codes_L2]
    rw [if_neg (by simp; omega)])
  obtain ⟨r, hr, rfl⟩ := key
  exact hr

/-- Places of the guess that are free. -/
def Fr1 (b : List Int) (u : List Bool) (c : Int) (k : Nat) : Prop := getb u (k : Int) = false ∧ geti b k = c
theorem free1_set {u : List Bool} (hu : u.length = b.length) {j : Nat} (hj : j < b.length) (hf : getb u (j : Int) = false) (c : Int) :
    (c = geti b j → nR b.length (Fr1 b (u.set j true) c) + 1 = nR b.length (Fr1 b u c)) ∧ (c ≠ geti b j → nR b.length (Fr1 b (u.set j true) c) = nR b.length (Fr1 b u c)) := by
  constructor
  · intro e
    refine nR_less hj ⟨hf, e.symm⟩ fun k hk => ?_
    unfold Fr1
    rw [getbs (by omega)]
    by_cases q : k = j
    · subst q; simp
    · rw [if_neg q]
      exact ⟨fun h => ⟨h, q⟩, fun h => h.1⟩
  · intro e
    refine nR_congr _ fun k hk => ?_
    unfold Fr1
    rw [getbs (by omega)]
    by_cases q : k = j
    · subst q
      exact ⟨fun h => absurd h.2.symm e, fun h => absurd h.2.symm e⟩
    · rw [if_neg q]

theorem codesIn (h8 : b.length ≤ 8) {u : List Bool} (hu : u.length = b.length) {i : Nat} (hi : i < a.length) {both same : Int} (hb0 : 0 ≤ both ∧ both ≤ 8) :
    (∃ j : Nat, j < b.length ∧ Fr1 b u (geti a i) j ∧ loop (gameroomref_CodesOf_L2 a b both u i same) 0 = some (same, both + 1, u.set j true)) ∨ ((∀ j : Nat, j < b.length → ¬ Fr1 b u (geti a i) j) ∧ loop (gameroomref_CodesOf_L2 a b both u i same) 0 = some (same, both, u)) := by
  have key := count_loop (step := gameroomref_CodesOf_L2 a b both u i same) (fun (_ : Unit) (k : Nat) => (k : Int)) (fun n _ => ∀ j : Nat, j < n → ¬ Fr1 b u (geti a i) j)
    (fun r => (∃ j : Nat, j < b.length ∧ Fr1 b u (geti a i) j ∧ r = (same, both + 1, u.set j true)) ∨ ((∀ j : Nat, j < b.length → ¬ Fr1 b u (geti a i) j) ∧ r = (same, both, u))) b.length () (fun j hj => by omega) (by
    rintro k - hk hI
    have e1 : gameroomref_CodesOf_L2 a b both u i same (k : Int) = gameroomref_CodesOf_J5 a b both u i same k := if_pos (decide_eq_true (by omega))
    rw [e1]
    unfold gameroomref_CodesOf_J5 gameroomref_CodesOf_J6
    rw [asrt_pos (by omega), asrt_pos (fun _ => by omega), asrt_pos (fun _ => by omega), asrt_pos (by omega), w64_of (x := (k : Int) + 1) (by omega), w64_of (x := both + 1) (by omega), Int.toNat_natCast]
    by_cases q : Fr1 b u (geti a i) k
    · right
      rw [q.1, if_pos (by simpa using q.2)]
      exact ⟨_, rfl, .inl ⟨k, hk, q, rfl⟩⟩
    · left
      rw [if_neg (by rw [Bool.and_eq_true, Bool.not_eq_true', beq_iff_eq]; exact q)]
      refine ⟨(), rfl, fun j hj => ?_⟩
      by_cases e : j = k
      · subst e; exact q
      · exact hI j (by omega)) (by
    rintro - hI
    refine ⟨(same, both, u), ?_, .inr ⟨hI, rfl⟩⟩
    simp only [gameroomref_CodesOf_L2]
    rw [if_neg (by simp)])
  obtain ⟨r, hr, ⟨j, h1, h2, rfl⟩ | ⟨h1, rfl⟩⟩ := key
  · exact .inl ⟨j, h1, h2, hr⟩
  · exact .inr ⟨h1, hr⟩

theorem codes_r (hab : a.length = b.length) (h8 : a.length ≤ 8) (hD : D.Nodup) (ha : ∀ k : Nat, k < a.length → geti a k ∈ D) :
    gameroomref_CodesOf_m a b = some ((mt a b a.length : Int), ((SM D (fun c => min (cc b a.length c) (cc a a.length c)) : Int) - (mt a b a.length : Int))) := by
  classical
  unfold gameroomref_CodesOf_m
  rw [asrt_pos (by unfold bigN; omega), Int.toNat_natCast]
  have key := count_loop (step := gameroomref_CodesOf_L1 a b) (fun (s : Nat × Nat × List Bool) (i : Nat) => ((s.1 : Int), (s.2.1 : Int), s.2.2, (i : Int)))
    (fun n s => s.1 = mt a b n ∧ s.2.1 = SM D (fun c => min (cc b a.length c) (cc a n c)) ∧ s.2.1 ≤ n ∧ s.2.2.length = b.length ∧ ∀ c, nR b.length (Fr1 b s.2.2 c) = cc b a.length c - cc a n c)
    (fun r => r = ((mt a b a.length : Int), (SM D (fun c => min (cc b a.length c) (cc a a.length c)) : Int))) a.length (0, 0, List.replicate b.length false) ⟨rfl, by
      rw [SM_congr (g := fun _ => 0) (fun d _ => by simp [cc, nR_zero]), SM_zero], by simp, by simp, fun c => by
      simp only [cc, nR_zero, Nat.sub_zero]
      rw [hab]
      refine nR_congr _ fun k hk => ?_
      unfold Fr1
      rw [getb_some (by rw [List.getElem?_replicate, if_pos hk])]
      simp⟩ (by
    rintro i ⟨sm, bo, u⟩ hi ⟨h1, h2, h3, h4, h5⟩
    left
    simp only at h1 h2 h3 h4 h5 ⊢
    have hm : mt a b i ≤ i := nR_le _ _
    have e1 : gameroomref_CodesOf_L1 a b ((sm : Int), (bo : Int), u, (i : Int)) = gameroomref_CodesOf_J2 a b sm bo u i := if_pos (decide_eq_true (by omega))
    have hs : ∀ x : Int, x = (mt a b (i + 1) : Int) → gameroomref_CodesOf_J4 a b bo u i x = (loop (gameroomref_CodesOf_L2 a b bo u i x) 0).bind (gameroomref_CodesOf_K2 i) := fun x _ => rfl
    have e2 : gameroomref_CodesOf_J2 a b sm bo u i = gameroomref_CodesOf_J4 a b bo u i (mt a b (i + 1) : Int) := by
      unfold gameroomref_CodesOf_J2
      rw [asrt_pos (by omega), asrt_pos (by omega), w64_of (by omega)]
      unfold mt
      rw [nR_succ]
      by_cases q : geti a i = geti b i
      · rw [if_pos (beq_iff_eq.2 q), if_pos q, h1]; rfl
      · rw [if_neg (by simpa using q), if_neg q, h1]; rfl
    rw [e1, e2]
    unfold gameroomref_CodesOf_J4
    have hc : cc a (i + 1) (geti a i) = cc a i (geti a i) + 1 := by
      unfold cc; rw [nR_succ, if_pos rfl]
    have hc' : ∀ c, c ≠ geti a i → cc a (i + 1) c = cc a i c := fun c q => by
      unfold cc; rw [nR_succ, if_neg (fun h => q h.symm)]; rfl
    rcases codesIn (a := a) (b := b) (by omega) h4 hi (both := bo) (same := (mt a b (i + 1) : Int)) (by omega) with ⟨j, j1, j2, j3⟩ | ⟨j1, j2⟩
    · rw [j3, Option.bind_some]
      simp only [gameroomref_CodesOf_K2]
      unfold gameroomref_CodesOf_J3
      rw [w64_of (by omega)]
      have hp := nR_pos.2 ⟨j, j1, j2⟩
      rw [h5] at hp
      refine ⟨(mt a b (i + 1), bo + 1, u.set j true), rfl, rfl, ?_, by simp only; omega, by simp [h4], fun c => ?_⟩
      · simp only
        rw [h2]
        exact (SM_inc (c := geti a i) hD (ha i hi) (fun d hd => by rw [hc' d hd]) (by rw [hc]; omega)).symm
      · have hf := free1_set h4 j1 j2.1 c
        simp only
        by_cases e : c = geti a i
        · subst e
          have h7 := hf.1 j2.2.symm
          rw [h5] at h7
          rw [hc]; omega
        · rw [hf.2 (by rw [j2.2]; exact e), h5, hc' c e]
    · rw [j2, Option.bind_some]
      simp only [gameroomref_CodesOf_K2]
      unfold gameroomref_CodesOf_J3
      rw [w64_of (by omega)]
      have h0 : nR b.length (Fr1 b u (geti a i)) = 0 := by
        refine Classical.byContradiction fun hh => ?_
        obtain ⟨k, k1, k2⟩ := nR_pos.1 (show 0 < nR b.length (Fr1 b u (geti a i)) by omega)
        exact j1 k k1 k2
      rw [h5] at h0
      refine ⟨(mt a b (i + 1), bo, u), rfl, rfl, ?_, by simp only; omega, h4, fun c => ?_⟩
      · simp only
        rw [h2]
        refine SM_congr fun d _ => ?_
        by_cases e : d = geti a i
        · subst e; rw [hc]; omega
        · rw [hc' d e]
      · simp only
        rw [h5]
        by_cases e : c = geti a i
        · subst e; rw [hc]; omega
        · rw [hc' c e]) (by
    rintro ⟨sm, bo, u⟩ ⟨h1, h2, h3, h4, h5⟩
    simp only at h1 h2
    refine ⟨((sm : Int), (bo : Int)), ?_, by rw [h1, h2]⟩
    simp only [gameroomref_CodesOf_L1]
    rw [if_neg (by simp)])
  obtain ⟨r, hr, rfl⟩ := key
  have hr' : loop (gameroomref_CodesOf_L1 a b) (0, 0, List.replicate b.length false, 0) = _ := hr
  rw [hr', Option.bind_some]
  simp only [gameroomref_CodesOf_K1]
  unfold gameroomref_CodesOf_J1
  have hm : mt a b a.length ≤ a.length := nR_le _ _
  have hsum : SM D (fun c => min (cc b a.length c) (cc a a.length c)) ≤ a.length := by
    have : ∀ n : Nat, n ≤ a.length → SM D (fun c => min (cc b a.length c) (cc a n c)) ≤ n := by
      intro n
      induction n with
      | zero =>
        intro _
        rw [SM_congr (g := fun _ => 0) (fun d _ => by simp [cc, nR_zero]), SM_zero]; omega
      | succ n ih =>
        intro hn
        have ih := ih (by omega)
        have hc : cc a (n + 1) (geti a n) = cc a n (geti a n) + 1 := by
          unfold cc; rw [nR_succ, if_pos rfl]
        have hc' : ∀ c, c ≠ geti a n → cc a (n + 1) c = cc a n c := fun c q => by
          unfold cc; rw [nR_succ, if_neg (fun h => q h.symm)]; rfl
        by_cases q : cc a n (geti a n) < cc b a.length (geti a n)
        · rw [SM_inc (f := fun c => min (cc b a.length c) (cc a n c)) (c := geti a n) hD (ha n (by omega)) (fun d hd => by rw [hc' d hd]) (by rw [hc]; omega)]
          omega
        · rw [SM_congr (g := fun c => min (cc b a.length c) (cc a n c)) (fun d _ => by
            by_cases e : d = geti a n
            · subst e; rw [hc]; omega
            · rw [hc' d e])]
          omega
    exact this a.length (Nat.le_refl _)
  rw [w64_of (by omega)]

theorem codes_both (hab : a.length = b.length) (h8 : a.length ≤ 8) : ∃ x y : Int, words_Codes_m a b = some (x, y, 0) ∧ gameroomref_CodesOf_m a b = some (x, y) := by
  obtain ⟨D, hD, hm⟩ := keys_of (a ++ b)
  have ha : ∀ k : Nat, k < a.length → geti a k ∈ D := fun k hk => hm _ (List.mem_append_left _ (List.mem_of_getElem? (get_geti hk)))
  have hb : ∀ k : Nat, k < b.length → geti b k ∈ D := fun k hk => hm _ (List.mem_append_right _ (List.mem_of_getElem? (get_geti hk)))
  obtain ⟨left, l1, l2⟩ := codes1 hab h8
  have l3 := codes2 (D := D) hab h8 hD hb l2
  refine ⟨(mt a b a.length : Int), (SM D (fun c => min (cu a b a.length c) (gu a b a.length c)) : Int), ?_, ?_⟩
  · unfold words_Codes_m
    rw [if_neg (by simp; omega)]
    unfold words_Codes_J1
    rw [l1, Option.bind_some]
    simp only [words_Codes_K1]
    unfold words_Codes_J2
    rw [l3, Option.bind_some]
    simp only [words_Codes_K2]
    rfl
  · rw [codes_r (D := D) hab h8 hD ha]
    have e := SM_add (D := D) (f := fun c => min (cu a b a.length c) (gu a b a.length c)) (g := mc a b a.length) (h := fun c => min (cc b a.length c) (cc a a.length c)) (fun d _ => by
      have q1 := cc_split (a := a) (b := b) a.length d
      have q2 := cg_split (a := a) (b := b) a.length d
      omega)
    rw [mt_sum hD a.length ha] at e
    congr 2
    omega
end
end Go.Proofs.YtdbdcbejmbpbmaaDoor
