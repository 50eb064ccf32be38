/-
  Men that are borne off: the document's means.
-/
import Derived.Test.YtbmhcapeikebgaaRLb
namespace Go.Proofs.Ytbmhcapeikebgaa
open Go Go.GL

theorem sameInts_eq {a b : List Int} (ha : a.length ≤ 17592186044416) : gameroomref_sameInts_m a b = some (decide (a = b)) := by
  unfold gameroomref_sameInts_m
  by_cases hl : a.length = b.length
  · rw [if_neg (by simp [hl])]
    unfold gameroomref_sameInts_J1
    have h := count_loop (step := gameroomref_sameInts_L1 a b) (fun (_ : Unit) k => (k : Int)) (fun k _ => ∀ i, i < k → a[i]? = b[i]?) (fun r => gameroomref_sameInts_K1 r = some (decide (a = b))) a.length () (fun i hi => by omega) ?_ ?_
    · obtain ⟨r, h1, h2⟩ := h
      have h1' : loop (gameroomref_sameInts_L1 a b) 0 = some r := h1
      rw [h1']
      exact h2
    · intro i _ hi hI
      obtain ⟨x, hx⟩ : ∃ x, a[i]? = some x := ⟨_, List.getElem?_eq_getElem hi⟩
      obtain ⟨y, hy⟩ : ∃ y, b[i]? = some y := ⟨_, List.getElem?_eq_getElem (by omega)⟩
      simp only [gameroomref_sameInts_L1, gameroomref_sameInts_J3]
      rw [if_pos (by simpa using hi), asrt_pos (idx_bd hx), asrt_pos (idx_bd hy), geti_some hx, geti_some hy]
      by_cases hxy : x = y
      · left
        rw [if_neg (by simp [hxy])]
        refine ⟨(), by simp only [gameroomref_sameInts_J4]; rw [w64_succ (by omega)]; rfl, fun j hj => ?_⟩
        by_cases hji : j = i
        · subst hji; rw [hx, hy, hxy]
        · exact hI j (by omega)
      · right
        rw [if_pos (by simp [hxy])]
        refine ⟨_, rfl, ?_⟩
        have hne : a ≠ b := fun h => hxy (by rw [h, hy] at hx; exact (Option.some.inj hx).symm)
        simp [gameroomref_sameInts_K1, hne]
    · intro _ hI
      refine ⟨Fl.go (), ?_, ?_⟩
      · simp only [gameroomref_sameInts_L1]
        rw [if_neg (by simp)]
      · have : a = b := by
          apply List.ext_getElem?
          intro i
          by_cases hi : i < a.length
          · exact hI i hi
          · rw [List.getElem?_eq_none (by omega), List.getElem?_eq_none (by omega)]
        simp [gameroomref_sameInts_K1, gameroomref_sameInts_J2, this]
  · rw [if_pos (by simp; omega)]
    have : a ≠ b := fun h => hl (by rw [h])
    simp [this]

theorem nodup_len {l : List Int} {L : Nat} (h : l.Nodup) (hb : ∀ q ∈ l, ∃ b : Nat, b < L ∧ q = b) : l.length ≤ L := by
  have e : sortI l = ((List.range L).filter (fun (b : Nat) => decide ((b : Int) ∈ l))).map (fun (b : Nat) => (b : Int)) := by
    refine strict_ext (sortI_lt h) (filt_lt _ _) fun q => ?_
    rw [sortI_mem, List.mem_map]
    constructor
    · intro hq
      obtain ⟨b, h1, rfl⟩ := hb q hq
      exact ⟨b, by rw [List.mem_filter, List.mem_range, decide_eq_true_eq]; exact ⟨h1, hq⟩, rfl⟩
    · rintro ⟨b, h1, rfl⟩
      rw [List.mem_filter, decide_eq_true_eq] at h1
      exact h1.2
  have := congrArg List.length e
  rw [sortI_length, List.length_map] at this
  rw [this]
  refine Nat.le_trans (List.length_filter_le _ _) ?_
  rw [List.length_range]
  exact Nat.le_refl _


theorem ints_r {l : List Int} (h : l.length ≤ 17592186044416) : gameroomref_Ints_m l = some l := by
  unfold gameroomref_Ints_m
  rw [asrt_pos (by unfold bigN; omega)]
  rfl

structure KD (men : List (List Int)) (mean : List Int) : Prop where
  len : men.length = mean.length
  val : ∀ (i : Nat) (g : List Int), men[i]? = some g → mean[i]? = some (meanV g)
  good : ∀ g ∈ men, GoodH g
  nd : men.Nodup
def KX (a b : List (List Int)) (B : Int) : Prop := ∀ g ∈ b, g ∈ a ∨ pipH g ≤ B
theorem KX.refl (a : List (List Int)) (B : Int) : KX a a B := fun _ h => .inl h
theorem KX.trans {a b c : List (List Int)} {B : Int} (h : KX a b B) (k : KX b c B) : KX a c B := fun g hg => by
  rcases k g hg with q | q
  · exact h g q
  · exact .inr q
theorem KX.mono {a b : List (List Int)} {B C : Int} (h : KX a b B) (hBC : B ≤ C) : KX a b C := fun g hg => by
  rcases h g hg with q | q
  · exact .inl q
  · exact .inr (by omega)

def codeH (h : List Int) : Int := geti h 0 + 4 * geti h 1 + 16 * geti h 2 + 64 * geti h 3 + 256 * geti h 4 + 1024 * geti h 5
theorem code_bd {h : List Int} (g : GoodH h) : ∃ b : Nat, b < 4096 ∧ codeH h = b := by
  have := g.all
  unfold menH at this
  refine ⟨(codeH h).toNat, ?_, ?_⟩ <;> unfold codeH <;> omega
theorem code_inj {h k : List Int} (g : GoodH h) (g2 : GoodH k) (e : codeH h = codeH k) : h = k := by
  have h1 := g.all
  have h2 := g2.all
  unfold menH at h1 h2
  unfold codeH at e
  refine tup_inj g.len g2.len ?_
  unfold tup6
  have e5 : geti h 5 = geti k 5 := by omega
  have e4 : geti h 4 = geti k 4 := by omega
  have e3 : geti h 3 = geti k 3 := by omega
  have e2 : geti h 2 = geti k 2 := by omega
  have e1 : geti h 1 = geti k 1 := by omega
  have e0 : geti h 0 = geti k 0 := by omega
  rw [e0, e1, e2, e3, e4, e5]
theorem KD.small {men : List (List Int)} {mean : List Int} (h : KD men mean) : men.length ≤ 4096 := by
  have hn : (men.map codeH).Nodup := by
    unfold List.Nodup
    rw [List.pairwise_map]
    refine h.nd.imp_of_mem fun {a b} ha hb hne e => hne (code_inj (h.good a ha) (h.good b hb) e)
  have := nodup_len (L := 4096) hn (fun q hq => by
    rw [List.mem_map] at hq
    obtain ⟨k, hk, rfl⟩ := hq
    exact code_bd (h.good k hk))
  rwa [List.length_map] at this

theorem far_spec {h : List Int} : ∀ n : Nat, (farF h n = -1 ∧ ∀ i, i < n → geti h (i : Int) = 0) ∨ ∃ k, k < n ∧ farF h n = (k : Nat) ∧ geti h ((k : Nat) : Int) ≠ 0 ∧ ∀ i, k < i → i < n → geti h (i : Int) = 0
  | 0 => .inl ⟨rfl, fun i hi => by omega⟩
  | n + 1 => by
    unfold farF
    by_cases q : geti h (n : Int) = 0
    · rw [if_pos q]
      rcases far_spec (h := h) n with ⟨h1, h2⟩ | ⟨k, h1, h2, h3, h4⟩
      · refine .inl ⟨h1, fun i hi => ?_⟩
        by_cases e : i = n
        · rw [e]; exact q
        · exact h2 i (by omega)
      · refine .inr ⟨k, by omega, h2, h3, fun i h5 h6 => ?_⟩
        by_cases e : i = n
        · rw [e]; exact q
        · exact h4 i h5 (by omega)
    · rw [if_neg q]
      exact .inr ⟨n, by omega, rfl, q, fun i h5 h6 => by omega⟩
theorem empty_iff {h : List Int} : emptyH h = true ↔ ∀ i : Nat, i < 6 → geti h (i : Int) = 0 := by
  unfold emptyH
  simp only [Bool.and_eq_true, beq_iff_eq]
  constructor
  · rintro ⟨h0, h1, h2, h3, h4, h5⟩ i hi
    rcases six hi with rfl | rfl | rfl | rfl | rfl | rfl
    · exact h0
    · exact h1
    · exact h2
    · exact h3
    · exact h4
    · exact h5
  · intro h6
    exact ⟨h6 0 (by omega), h6 1 (by omega), h6 2 (by omega), h6 3 (by omega), h6 4 (by omega), h6 5 (by omega)⟩

theorem far_r {h : List Int} (g : GoodH h) : loop (gameroomref_known_least_L1 h) (-1, 0) = some (farF h 6) := by
  have hl := g.len
  have key := count_loop (step := gameroomref_known_least_L1 h) (fun (_ : Unit) (i : Nat) => (farF h i, (i : Int))) (fun _ _ => True) (fun r => r = farF h 6) 6 () trivial (by
    rintro i _ hi _
    left
    refine ⟨(), ?_, trivial⟩
    have h0 := g.pos i hi
    simp only [gameroomref_known_least_L1]
    rw [if_pos (by rw [decide_eq_true_eq]; omega)]
    unfold gameroomref_known_least_J2 gameroomref_known_least_J3
    rw [asrt_pos (by omega), w64_of (by omega), farF]
    by_cases q : geti h (i : Int) = 0
    · rw [if_neg (by rw [decide_eq_true_eq]; omega), if_pos q]; rfl
    · rw [if_pos (by rw [decide_eq_true_eq]; omega), if_neg q]; rfl) (by
    rintro _ _
    refine ⟨_, ?_, rfl⟩
    simp only [gameroomref_known_least_L1]
    rw [if_neg (by decide)])
  obtain ⟨r, hr, rfl⟩ := key
  exact hr

theorem mov_up {h : List Int} {p : Int} {k : Nat} (hz : ∀ i, k < i → i < 6 → geti h (i : Int) = 0) : ∀ m : Nat, k + 1 + m ≤ 6 → movN h p (k + 1 + m) = movN h p (k + 1)
  | 0, _ => rfl
  | m + 1, hm => by
    rw [← Nat.add_assoc, movN_succ, mov_up hz m (by omega), if_neg (by
      unfold okM
      rw [hz (k + 1 + m) (by omega) (by omega)]
      simp), List.append_nil]

theorem minF_snoc (l : List Int) (x : Int) : minF (l ++ [x]) = minB (minF l) x := by
  unfold minF
  simp [List.foldl_append]

theorem least_r {R : List (List Int) → List Int → List Int → Option (Int × List (List Int) × List Int)} {K : Int} (hR : ∀ g men mean, GoodH g → pipH g < K → KD men mean → ∃ men' mean', R men mean g = some (meanV g, men', mean') ∧ KD men' mean' ∧ KX men men' (pipH g)) : ∀ (ps : List Int) (h : List Int) (men : List (List Int)) (mean : List Int), (∀ p ∈ ps, 1 ≤ p ∧ p ≤ 6) → GoodH h → (pipH h < K ∨ (pipH h ≤ K ∧ ps ≠ [] ∧ ¬ emptyH h = true)) → KD men mean →
    ∃ men' mean', gameroomref_known_least_mF R (ps.length + 1) men mean h ps = some (bestP meanV ps h, men', mean') ∧ KD men' mean' ∧ KX men men' (pipH h) ∧ (ps ≠ [] → ¬ emptyH h = true → KX men men' (pipH h - 1))
  | [], h, men, mean, _, g, hK, hm => by
    have hK' : pipH h < K := by
      rcases hK with hK | ⟨_, hK, _⟩
      · exact hK
      · exact absurd rfl hK
    obtain ⟨men', mean', r1, r2, r3⟩ := hR h men mean g hK' hm
    refine ⟨men', mean', ?_, r2, r3, fun h => absurd rfl h⟩
    unfold gameroomref_known_least_mF gameroomref_known_least_B
    rw [far_r g, Option.bind_some]
    simp only [gameroomref_known_least_K1]
    unfold gameroomref_known_least_J1
    rw [if_pos (by simp), r1]
    rfl
  | p :: ps, h, men, mean, hp, g, hK, hm => by
    unfold gameroomref_known_least_mF gameroomref_known_least_B
    rw [far_r g, Option.bind_some]
    simp only [gameroomref_known_least_K1]
    unfold gameroomref_known_least_J1
    have hl0 : ((((p :: ps).length : Nat) : Int) == 0) = false := by
      rw [beq_eq_false_iff_ne, List.length_cons]; omega
    rw [hl0, Bool.or_false]
    unfold bestP
    rcases far_spec (h := h) 6 with ⟨f1, f2⟩ | ⟨k, f1, f2, f3, f4⟩
    · have e := empty_iff.2 f2
      have hK' : pipH h < K := by
        rcases hK with hK | ⟨_, _, hK⟩
        · exact hK
        · exact absurd e hK
      obtain ⟨men', mean', r1, r2, r3⟩ := hR h men mean g hK' hm
      refine ⟨men', mean', ?_, r2, r3, fun _ h => absurd e h⟩
      rw [f1, if_pos (by decide), if_pos e, r1]
      rfl
    · have e : ¬ emptyH h = true := fun e => f3 (empty_iff.1 e k f1)
      have hp1 := hp p (List.mem_cons_self ..)
      have hl := g.len
      rw [f2, if_neg (by rw [decide_eq_true_eq]; omega), if_neg e]
      unfold gameroomref_known_least_J4
      have e6 : movN h p 6 = movN h p (k + 1) := by
        have := mov_up (p := p) f4 (5 - k) (by omega)
        rw [show k + 1 + (5 - k) = 6 by omega] at this
        exact this
      have key := count_loop (step := gameroomref_known_least_L2 (gameroomref_known_least_mF R (ps.length + 1)) h (p :: ps) ((k : Nat) : Int)) (fun (s : List (List Int) × List Int) (i : Nat) => (s.1, s.2, minF ((movN h p i).map (bestP meanV ps)), (i : Int))) (fun _ s => KD s.1 s.2 ∧ KX men s.1 (pipH h - 1)) (fun r => ∃ men' mean', r = (minF ((movN h p (k + 1)).map (bestP meanV ps)), men', mean') ∧ KD men' mean' ∧ KX men men' (pipH h - 1)) (k + 1) (men, mean) ⟨hm, KX.refl _ _⟩ (by
        rintro i ⟨sm, sv⟩ hi ⟨hs1, hs2⟩
        left
        simp only at hs1 hs2 ⊢
        have hi6 : i < 6 := by omega
        have hb := g.pos i hi6
        have hmen := g.all
        have hle : ∀ d : Nat, d < 6 → geti h (d : Int) ≤ 3 := by
          intro d hd
          unfold menH at hmen
          rcases six hd with rfl | rfl | rfl | rfl | rfl | rfl <;> simp <;> omega
        have hlei := hle i hi6
        simp only [gameroomref_known_least_L2]
        rw [if_pos (by rw [decide_eq_true_eq]; omega)]
        unfold gameroomref_known_least_J6
        rw [asrt_pos (by omega), asrt_pos (fun _ => by rw [List.length_cons]; omega), show geti (p :: ps) 0 = p from rfl, w64_of (x := (i : Int) + 1) (by omega), movN_succ]
        have hcond : (okM h p i = true) ↔ ¬ (((geti h (i : Int)) == 0) || ((decide ((i : Int) + 1 < p)) && ((i : Int) != ((k : Nat) : Int)))) = true := by
          unfold okM
          rw [f2, show decide ((i : Int) - p < -1) = decide ((i : Int) + 1 < p) by rw [decide_eq_decide]; omega]
          cases (geti h (i : Int) == 0) <;> cases decide ((i : Int) + 1 < p) <;> cases ((i : Int) != ((k : Nat) : Int)) <;> simp
        by_cases q : okM h p i = true
        · rw [if_pos q, if_neg (hcond.1 q), List.map_append, List.map_singleton, minF_snoc]
          obtain ⟨g1, g2⟩ := nxt_good g hp1.1 hi6 q
          have hK2 : pipH (nxt h p i) < K := by omega
          obtain ⟨men1, mean1, r1, r2, r3, _⟩ := least_r hR ps (nxt h p i) sm sv (fun q hq => hp q (List.mem_cons_of_mem _ hq)) g1 (.inl hK2) hs1
          refine ⟨(men1, mean1), ?_, r2, hs2.trans (r3.mono (by omega))⟩
          unfold gameroomref_known_least_J8
          rw [ints_r (by omega), Option.bind_some, asrt_pos (by omega), asrt_pos (by omega), asrt_pos (by rw [List.length_cons]; omega), show geti (p :: ps) 0 = p from rfl, w64_of (x := (i : Int) - p) (by omega), w64_of (x := geti h (i : Int) - 1) (by omega), Int.toNat_natCast]
          have fin : gameroomref_known_least_J9 (gameroomref_known_least_mF R (ps.length + 1)) (p :: ps) sm sv (minF ((movN h p i).map (bestP meanV ps))) (i : Int) (nxt h p i) = some (.next (men1, mean1, minB (minF ((movN h p i).map (bestP meanV ps))) (bestP meanV ps (nxt h p i)), ((i + 1 : Nat) : Int))) := by
            unfold gameroomref_known_least_J9 gameroomref_known_least_J7
            rw [asrt_pos (by rw [List.length_cons]; omega), cut_tail, r1, Option.bind_some]
            simp only
            rw [w64_of (by omega)]
            generalize minF ((movN h p i).map (bestP meanV ps)) = b
            unfold minB
            by_cases q3 : b < 0 ∨ bestP meanV ps (nxt h p i) < b
            · rw [if_pos (by rw [Bool.or_eq_true, decide_eq_true_eq, decide_eq_true_eq]; exact q3), if_pos q3]
              rfl
            · rw [if_neg (by rw [Bool.or_eq_true, decide_eq_true_eq, decide_eq_true_eq]; exact q3), if_neg q3]
              rfl
          rw [← fin]
          unfold nxt
          by_cases q2 : 0 ≤ (i : Int) - p
          · have hs := set_six hl hi6 (geti h (i : Int) - 1) ((i : Int) - p).toNat
            rw [show ((((i : Int) - p).toNat : Nat) : Int) = (i : Int) - p by omega] at hs
            have hv : -1 ≤ geti (h.set i (geti h (i : Int) - 1)) ((i : Int) - p) ∧ geti (h.set i (geti h (i : Int) - 1)) ((i : Int) - p) ≤ 3 := by
              rw [hs]
              split
              · omega
              · have h7 := g.pos ((i : Int) - p).toNat (by omega)
                have h8 := hle ((i : Int) - p).toNat (by omega)
                rw [show ((((i : Int) - p).toNat : Nat) : Int) = (i : Int) - p by omega] at h7 h8
                omega
            rw [if_pos (decide_eq_true q2), if_pos q2, asrt_pos (by rw [List.length_cons]; omega), asrt_pos (by omega), asrt_pos (by omega), w64_of (x := geti (h.set i (geti h (i : Int) - 1)) ((i : Int) - p) + 1) (by omega)]
          · rw [if_neg (by rw [decide_eq_true_eq]; exact q2), if_neg q2]
        · refine ⟨(sm, sv), ?_, hs1, hs2⟩
          have q' : (((geti h (i : Int)) == 0) || ((decide ((i : Int) + 1 < p)) && ((i : Int) != ((k : Nat) : Int)))) = true := by
            cases e9 : (((geti h (i : Int)) == 0) || ((decide ((i : Int) + 1 < p)) && ((i : Int) != ((k : Nat) : Int)))) with
            | true => rfl
            | false => exact absurd (hcond.2 (by rw [e9]; decide)) q
          rw [if_neg q, if_pos q', List.append_nil]
          unfold gameroomref_known_least_J7
          rw [w64_of (by omega)]
          rfl) (by
        rintro ⟨sm, sv⟩ ⟨hs1, hs2⟩
        refine ⟨_, ?_, sm, sv, rfl, hs1, hs2⟩
        simp only [gameroomref_known_least_L2]
        rw [if_neg (by rw [decide_eq_true_eq]; omega)])
      obtain ⟨r, hr, men', mean', rfl, h3, h4⟩ := key
      have hr' : loop (gameroomref_known_least_L2 (gameroomref_known_least_mF R (ps.length + 1)) h (p :: ps) ((k : Nat) : Int)) (men, mean, -1, 0) = some (minF ((movN h p (k + 1)).map (bestP meanV ps)), men', mean') := hr
      refine ⟨men', mean', ?_, h3, h4.mono (by omega), fun _ _ => h4⟩
      have e10 : gameroomref_known_least_mF R (p :: ps).length = gameroomref_known_least_mF R (ps.length + 1) := rfl
      rw [e10, hr', Option.bind_some, e6]
      rfl

theorem least_rm {R : List (List Int) → List Int → List Int → Option (Int × List (List Int) × List Int)} {h : List Int} (g : GoodH h) (he : ¬ emptyH h = true) (hR : ∀ k men mean, GoodH k → pipH k < pipH h → KD men mean → ∃ men' mean', R men mean k = some (meanV k, men', mean') ∧ KD men' mean' ∧ KX men men' (pipH k)) {men : List (List Int)} {mean : List Int} (hm : KD men mean) (ps : List Int) (h0 : ps ≠ []) (hp : ∀ p ∈ ps, 1 ≤ p ∧ p ≤ 6) : ∃ men' mean', gameroomref_known_least_m R men mean h ps = some (bestP meanV ps h, men', mean') ∧ KD men' mean' ∧ KX men men' (pipH h - 1) := by
  obtain ⟨men', mean', r1, r2, _, r3⟩ := least_r hR ps h men mean hp g (.inr ⟨Int.le_refl _, h0, he⟩) hm
  exact ⟨men', mean', recM_mono (fun n => gameroomref_known_least_mF_le _ n _ _ _ _) r1, r2, r3 h0 he⟩

def psum (h : List Int) : Nat → Int
  | 0 => 0
  | i + 1 => psum h i + geti h (i : Int)
theorem psum_bd {h : List Int} (g : GoodH h) : ∀ i : Nat, i ≤ 6 → 0 ≤ psum h i ∧ psum h i ≤ 3 * i
  | 0, _ => by unfold psum; omega
  | i + 1, hi => by
    have h1 := psum_bd g i (by omega)
    have h2 := g.pos i (by omega)
    have hmen := g.all
    have hle : geti h (i : Int) ≤ 3 := by
      unfold menH at hmen
      rcases six (show i < 6 by omega) with rfl | rfl | rfl | rfl | rfl | rfl <;> simp <;> omega
    unfold psum
    omega
theorem psum6 (h : List Int) : psum h 6 = menH h := by
  simp [psum, menH]

theorem left_r {h : List Int} (g : GoodH h) : loop (gameroomref_known_of_L1 h) (0, 0) = some (menH h) := by
  have hl := g.len
  have key := count_loop (step := gameroomref_known_of_L1 h) (fun (_ : Unit) (i : Nat) => (psum h i, (i : Int))) (fun _ _ => True) (fun r => r = menH h) 6 () trivial (by
    rintro i _ hi _
    left
    refine ⟨(), ?_, trivial⟩
    have h1 := psum_bd g i (by omega)
    have h2 := psum_bd g (i + 1) (by omega)
    unfold psum at h2
    simp only [gameroomref_known_of_L1]
    rw [if_pos (by rw [decide_eq_true_eq]; omega)]
    unfold gameroomref_known_of_J2 gameroomref_known_of_J3
    rw [asrt_pos (by omega), w64_of (x := (i : Int) + 1) (by omega), w64_of (by omega)]
    rfl) (by
    rintro _ _
    refine ⟨_, ?_, psum6 h⟩
    simp only [gameroomref_known_of_L1]
    rw [if_neg (by decide)])
  obtain ⟨r, hr, rfl⟩ := key
  exact hr

theorem find_r {men : List (List Int)} {mean : List Int} (hm : KD men mean) {h : List Int} (g : GoodH h) : ∃ r, loop (gameroomref_known_of_L2 men mean h) 0 = some r ∧ ((r = .ret (meanV h, men, mean)) ∨ (r = .go () ∧ h ∉ men)) := by
  have hsm := hm.small
  have key := count_loop (step := gameroomref_known_of_L2 men mean h) (fun (_ : Unit) (i : Nat) => (i : Int)) (fun n _ => ∀ j k, j < n → men[j]? = some k → k ≠ h) (fun r => (r = .ret (meanV h, men, mean)) ∨ (r = .go () ∧ h ∉ men)) men.length () (fun j k hj => by omega) (by
    rintro i _ hi hI
    obtain ⟨k, hk⟩ : ∃ k, men[i]? = some k := ⟨_, List.getElem?_eq_getElem hi⟩
    have gk := hm.good k (List.mem_of_getElem? hk)
    have hl := hm.len
    simp only [gameroomref_known_of_L2]
    rw [if_pos (by rw [decide_eq_true_eq]; omega)]
    unfold gameroomref_known_of_J6 gameroomref_known_of_J7
    have e2 : geti2 men (i : Int) = k := by unfold geti2; rw [Int.toNat_natCast, List.getD_eq_getElem?_getD, hk]; rfl
    rw [asrt_pos (by omega), e2, sameInts_eq (by rw [gk.len]; omega), Option.bind_some, w64_of (by omega)]
    by_cases q : k = h
    · right
      subst q
      rw [if_pos (by simp), asrt_pos (by omega), geti_some (hm.val i k hk)]
      exact ⟨_, rfl, .inl rfl⟩
    · left
      rw [if_neg (by simpa using q)]
      refine ⟨(), rfl, fun j k' hj hk' => ?_⟩
      by_cases e : j = i
      · subst e
        rw [hk] at hk'
        rw [← Option.some.inj hk']
        exact q
      · exact hI j k' (by omega) hk') (by
    rintro _ hI
    refine ⟨.go (), ?_, .inr ⟨rfl, fun hmem => ?_⟩⟩
    · simp only [gameroomref_known_of_L2]
      rw [if_neg (by simp)]
    · obtain ⟨j, hj⟩ := List.mem_iff_getElem?.1 hmem
      exact hI j h (List.getElem?_eq_some_iff.1 hj).1 hj rfl)
  exact key

theorem men_zero {h : List Int} (g : GoodH h) : (menH h == 0) = emptyH h := by
  have hall := g.all
  rw [Bool.eq_iff_iff, beq_iff_eq, empty_iff]
  constructor
  · intro e i hi
    unfold menH at e hall
    rcases six hi with rfl | rfl | rfl | rfl | rfl | rfl <;> simp <;> omega
  · intro h6
    have a0 := h6 0 (by omega)
    have a1 := h6 1 (by omega)
    have a2 := h6 2 (by omega)
    have a3 := h6 3 (by omega)
    have a4 := h6 4 (by omega)
    have a5 := h6 5 (by omega)
    simp at a0 a1 a2 a3 a4 a5
    unfold menH
    omega

theorem of_r : ∀ (n : Nat) (h : List Int) (men : List (List Int)) (mean : List Int), GoodH h → pipH h < n → KD men mean → ∃ men' mean', gameroomref_known_of_mF n men mean h = some (meanV h, men', mean') ∧ KD men' mean' ∧ KX men men' (pipH h)
  | 0, h, _, _, g, hn, _ => by have := g.pip; omega
  | n + 1, h, men, mean, g, hn, hm => by
    unfold gameroomref_known_of_mF gameroomref_known_of_B
    rw [left_r g, Option.bind_some]
    simp only [gameroomref_known_of_K1]
    unfold gameroomref_known_of_J1
    rw [men_zero g]
    by_cases e : emptyH h = true
    · rw [if_pos e, meanV_eq g, if_pos e]
      exact ⟨men, mean, rfl, hm, KX.refl _ _⟩
    · rw [if_neg e]
      unfold gameroomref_known_of_J4
      obtain ⟨r, hr, hr2⟩ := find_r hm g
      rw [hr, Option.bind_some]
      rcases hr2 with rfl | ⟨rfl, hnot⟩
      · simp only [gameroomref_known_of_K2]
        exact ⟨men, mean, rfl, hm, KX.refl _ _⟩
      · simp only [gameroomref_known_of_K2]
        have hR : ∀ k men mean, GoodH k → pipH k < pipH h → KD men mean → ∃ men' mean', gameroomref_known_of_mF n men mean k = some (meanV k, men', mean') ∧ KD men' mean' ∧ KX men men' (pipH k) := fun k men mean gk hk hm => of_r n k men mean gk (by omega) hm
        unfold gameroomref_known_of_J5
        have row : ∀ (i : Nat) (s : Int) (a : List (List Int)) (b : List Int), i < 6 → KD a b → ∃ a' b', loop (gameroomref_known_of_L4 (gameroomref_known_of_mF n) h ((i : Int) + 1)) (a, b, s, 1) = some (a', b', rowN meanV h ((i : Int) + 1) s 6) ∧ KD a' b' ∧ KX a a' (pipH h - 1) := by
          intro i s a b hi hm
          have key := count_loop (step := gameroomref_known_of_L4 (gameroomref_known_of_mF n) h ((i : Int) + 1)) (fun (k : List (List Int) × List Int) (j : Nat) => (k.1, k.2, rowN meanV h ((i : Int) + 1) s j, (j : Int) + 1)) (fun _ k => KD k.1 k.2 ∧ KX a k.1 (pipH h - 1)) (fun r => ∃ a' b', r = (a', b', rowN meanV h ((i : Int) + 1) s 6) ∧ KD a' b' ∧ KX a a' (pipH h - 1)) 6 (a, b) ⟨hm, KX.refl _ _⟩ (by
            rintro j ⟨c, d⟩ hj ⟨hk, hx⟩
            left
            simp only at hk hx
            simp only [gameroomref_known_of_L4]
            rw [if_pos (by rw [decide_eq_true_eq]; omega)]
            unfold gameroomref_known_of_J11 gameroomref_known_of_J13 gameroomref_known_of_J14 gameroomref_known_of_J12
            rw [w64_of (x := (j : Int) + 1 + 1) (by omega)]
            have fin : ∀ a' b', (some (St.next (a', b', w64 (rowN meanV h ((i : Int) + 1) s j + thr meanV h ((i : Int) + 1) ((j : Int) + 1)), (j : Int) + 1 + 1)) : Option (St (List (List Int) × List Int × Int × Int) (List (List Int) × List Int × Int))) = some (.next (a', b', rowN meanV h ((i : Int) + 1) s (j + 1), ((j + 1 : Nat) : Int) + 1)) := fun _ _ => rfl
            by_cases exy : (i : Int) + 1 = (j : Int) + 1
            · rw [if_pos (by rw [beq_iff_eq]; exact exy)]
              obtain ⟨a1, b1, r1, r2, r3⟩ := least_rm g e hR hk [(i : Int) + 1, (i : Int) + 1, (i : Int) + 1, (i : Int) + 1] (by simp) (by simp; omega)
              refine ⟨(a1, b1), ?_, r2, hx.trans r3⟩
              rw [r1, Option.bind_some]
              simp only
              rw [← fin]
              unfold thr
              rw [if_pos exy]
            · rw [if_neg (by rw [beq_iff_eq]; exact exy)]
              obtain ⟨a1, b1, r1, r2, r3⟩ := least_rm g e hR hk [(i : Int) + 1, (j : Int) + 1] (by simp) (by simp; omega)
              obtain ⟨a2, b2, r4, r5, r6⟩ := least_rm g e hR r2 [(j : Int) + 1, (i : Int) + 1] (by simp) (by simp; omega)
              refine ⟨(a2, b2), ?_, r5, (hx.trans r3).trans r6⟩
              rw [r1, Option.bind_some]
              simp only
              rw [r4, Option.bind_some]
              simp only
              rw [← fin]
              unfold thr minI
              rw [if_neg exy]
              by_cases q : bestP meanV [(j : Int) + 1, (i : Int) + 1] h < bestP meanV [(i : Int) + 1, (j : Int) + 1] h
              · rw [if_pos (decide_eq_true q), if_pos q]
              · rw [if_neg (by rw [decide_eq_true_eq]; exact q), if_neg q]) (by
            rintro ⟨c, d⟩ ⟨hk, hx⟩
            refine ⟨_, ?_, c, d, rfl, hk, hx⟩
            simp only [gameroomref_known_of_L4]
            rw [if_neg (by decide)])
          obtain ⟨r, hr, a', b', rfl, h3, h4⟩ := key
          exact ⟨a', b', hr, h3, h4⟩
        have key := count_loop (step := gameroomref_known_of_L3 (gameroomref_known_of_mF n) h) (fun (k : List (List Int) × List Int) (i : Nat) => (k.1, k.2, totN meanV h i, (i : Int) + 1)) (fun _ k => KD k.1 k.2 ∧ KX men k.1 (pipH h - 1)) (fun r => ∃ a' b', r = (a', b', totN meanV h 6) ∧ KD a' b' ∧ KX men a' (pipH h - 1)) 6 (men, mean) ⟨hm, KX.refl _ _⟩ (by
          rintro i ⟨c, d⟩ hi ⟨hk, hx⟩
          left
          simp only at hk hx
          obtain ⟨a', b', r1, r2, r3⟩ := row i (totN meanV h i) c d hi hk
          refine ⟨(a', b'), ?_, r2, hx.trans r3⟩
          simp only [gameroomref_known_of_L3]
          rw [if_pos (by rw [decide_eq_true_eq]; omega)]
          unfold gameroomref_known_of_J9
          rw [r1, Option.bind_some]
          simp only [gameroomref_known_of_K4, gameroomref_known_of_J10]
          rw [w64_of (by omega)]
          rfl) (by
          rintro ⟨c, d⟩ ⟨hk, hx⟩
          refine ⟨_, ?_, c, d, rfl, hk, hx⟩
          simp only [gameroomref_known_of_L3]
          rw [if_neg (by decide)])
        obtain ⟨r, hr, a', b', rfl, h3, h4⟩ := key
        have hr' : loop (gameroomref_known_of_L3 (gameroomref_known_of_mF n) h) (men, mean, 0, 1) = some (a', b', totN meanV h 6) := hr
        rw [hr', Option.bind_some]
        simp only [gameroomref_known_of_K3]
        unfold gameroomref_known_of_J8 gameroomref_known_of_J15
        have hsm := h3.small
        have hlen := h3.len
        have ev : w64 (78364164096 + w64 (Int.tdiv (totN meanV h 6) 36)) = meanV h := by
          rw [meanV_eq g, if_neg e]
          rfl
        rw [ints_r (by rw [g.len]; omega), Option.bind_some, ev, asrt_pos (by unfold bigR; omega), asrt_pos (by unfold bigN; omega)]
        have hnot' : h ∉ a' := fun hmem => by
          rcases h4 h hmem with q | q
          · exact hnot q
          · omega
        refine ⟨a' ++ [h], b' ++ [meanV h], rfl, ⟨by simp [hlen], fun i k hk => ?_, fun k hk => ?_, ?_⟩, fun k hk => ?_⟩
        · rw [List.getElem?_append] at hk ⊢
          by_cases q : i < a'.length
          · rw [if_pos q] at hk
            rw [if_pos (by omega)]
            exact h3.val i k hk
          · rw [if_neg q] at hk
            rw [if_neg (by omega), ← hlen]
            have : i - a'.length = 0 := by
              have := (List.getElem?_eq_some_iff.1 hk).1
              simp at this
              omega
            rw [this] at hk ⊢
            simp at hk
            rw [← hk]
            rfl
        · rcases List.mem_append.1 hk with q | q
          · exact h3.good k q
          · rw [List.mem_singleton.1 q]; exact g
        · rw [List.nodup_append]
          refine ⟨h3.nd, by simp, ?_⟩
          intro x hx y hy exy
          rw [List.mem_singleton.1 hy] at exy
          rw [exy] at hx
          exact hnot' hx
        · rcases List.mem_append.1 hk with q | q
          · rcases h4 k q with q2 | q2
            · exact .inl q2
            · exact .inr (by omega)
          · rw [List.mem_singleton.1 q]; exact .inr (Int.le_refl _)

theorem of_rm {h : List Int} (g : GoodH h) : ∃ a b, gameroomref_known_of_m [] [] h = some (meanV h, a, b) := by
  have hp := g.pip
  obtain ⟨a, b, r1, _⟩ := of_r 19 h [] [] g (by omega) ⟨rfl, fun i k hk => by simp at hk, (fun k hk => by cases hk), List.nodup_nil⟩
  exact ⟨a, b, gameroomref_known_of_m_of _ _ _ _ r1⟩
end Go.Proofs.Ytbmhcapeikebgaa
