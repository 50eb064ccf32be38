/-
  Men that are borne off: the program's means.
-/
import Derived.Test.YtbmhcapeikebgaaNGR
import Derived.Test.YtbmhcapeikebgaaRLa
namespace Go.Proofs.Ytbmhcapeikebgaa
open Go Go.GL

abbrev T6 : Type := Int × Int × Int × Int × Int × Int
def tup6 (h : List Int) : T6 := (geti h 0, geti h 1, geti h 2, geti h 3, geti h 4, geti h 5)
def lst6 (t : T6) : List Int := [t.1, t.2.1, t.2.2.1, t.2.2.2.1, t.2.2.2.2.1, t.2.2.2.2.2]
theorem lst_tup {h : List Int} (hl : h.length = 6) : lst6 (tup6 h) = h := by
  match h, hl with
  | [a, b, c, d, e, f], _ => rfl
theorem tup_inj {h k : List Int} (h1 : h.length = 6) (h2 : k.length = 6) (e : tup6 h = tup6 k) : h = k := by
  rw [← lst_tup h1, ← lst_tup h2, e]

def KM (m : List (T6 × Int)) : Prop := ∀ h, GoodH h → mhas (tup6 h) m = true → mget 0 (tup6 h) m = meanV h
theorem KM.put {m : List (T6 × Int)} (hm : KM m) {h : List Int} (g : GoodH h) : KM (mput (tup6 h) (meanV h) m) := by
  intro k gk hk
  rw [mget_mput]
  rw [mhas_mput] at hk
  split
  · rename_i e
    rw [tup_inj gk.len g.len e]
  · rename_i e
    rw [decide_eq_false e, Bool.false_or] at hk
    exact hm k gk hk

theorem movN_succ (h : List Int) (p : Int) (i : Nat) : movN h p (i + 1) = movN h p i ++ (if okM h p i = true then [nxt h p i] else []) := by
  unfold movN
  rw [List.range_succ, List.filter_append, List.map_append]
  congr 1
  by_cases e : okM h p i = true
  · rw [if_pos e, List.filter_cons, if_pos e]; rfl
  · rw [if_neg e, List.filter_cons, if_neg e]; rfl
theorem movN_len (h : List Int) (p : Int) (n : Nat) : (movN h p n).length ≤ n := by
  unfold movN
  rw [List.length_map]
  refine Nat.le_trans (List.length_filter_le _ _) ?_
  rw [List.length_range]; exact Nat.le_refl _

theorem far_p {h : List Int} : ∀ n : Nat, n ≤ 6 → loop (gammon_home_moved_L1 h) ((n : Int) - 1) = some (farF h n)
  | 0, _ => loop_done (by simp [gammon_home_moved_L1, asrt, farF])
  | n + 1, hn => by
    have ih := far_p (h := h) n (by omega)
    unfold farF
    have e1 : ((n + 1 : Nat) : Int) - 1 = (n : Int) := by omega
    rw [e1]
    by_cases q : geti h (n : Int) = 0
    · rw [if_pos q]
      refine loop_next' ?_ ih
      simp only [gammon_home_moved_L1]
      rw [asrt_pos (fun _ => by omega), if_pos (by rw [Bool.and_eq_true, decide_eq_true_eq, beq_iff_eq]; exact ⟨by omega, q⟩)]
      unfold gammon_home_moved_J2
      rw [w64_of (by omega)]
    · rw [if_neg q]
      refine loop_done ?_
      simp only [gammon_home_moved_L1]
      rw [asrt_pos (fun _ => by omega), if_neg (by rw [Bool.and_eq_true, beq_iff_eq]; exact fun h => q h.2)]

theorem moved_p {h : List Int} (g : GoodH h) {p : Int} (hp : 1 ≤ p ∧ p ≤ 6) : gammon_home_moved_m h p = some ((movN h p 6).map tup6) := by
  have hl := g.len
  unfold gammon_home_moved_m
  have hf := far_p (h := h) 6 (by omega)
  have hf' : loop (gammon_home_moved_L1 h) 5 = some (farF h 6) := hf
  rw [hf', Option.bind_some]
  simp only [gammon_home_moved_K1]
  unfold gammon_home_moved_J1
  have key := count_loop (step := gammon_home_moved_L2 h p (farF h 6)) (fun (_ : Unit) (i : Nat) => ((movN h p i).map tup6, (i : Int))) (fun _ _ => True) (fun r => r = (movN h p 6).map tup6) 6 () trivial (by
    rintro i _ hi _
    left
    refine ⟨(), ?_, trivial⟩
    have hml := movN_len h p i
    have hb := g.pos i hi
    have hmen := g.all
    have hle : geti h (i : Int) ≤ 3 := by
      unfold menH at hmen
      rcases six hi with rfl | rfl | rfl | rfl | rfl | rfl <;> simp <;> omega
    simp only [gammon_home_moved_L2]
    rw [if_pos (by rw [decide_eq_true_eq]; omega), movN_succ]
    unfold gammon_home_moved_J4 gammon_home_moved_J6
    rw [asrt_pos (by omega), asrt_pos (by omega), asrt_pos (by omega), asrt_pos (by omega), w64_of (x := (i : Int) - p) (by omega), w64_of (x := geti h (i : Int) - 1) (by omega), Int.toNat_natCast]
    by_cases q : okM h p i = true
    · rw [if_pos q, if_neg (by
        unfold okM at q
        intro h2
        rw [Bool.or_eq_true] at h2
        rw [Bool.and_eq_true, Bool.not_eq_true', Bool.not_eq_true'] at q
        rcases h2 with h2 | h2
        · rw [h2] at q; cases q.1
        · rw [h2] at q; cases q.2), List.map_append]
      have fin : gammon_home_moved_J7 ((movN h p i).map tup6) (i : Int) (nxt h p i) = some (.next ((movN h p i).map tup6 ++ List.map tup6 [nxt h p i], ((i + 1 : Nat) : Int))) := by
        unfold gammon_home_moved_J7 gammon_home_moved_J5
        rw [asrt_pos (by rw [List.length_map]; unfold bigK; omega), w64_of (by omega)]
        rfl
      rw [← fin]
      unfold nxt
      by_cases q2 : 0 ≤ (i : Int) - p
      · have hs := set_six hl hi (geti h (i : Int) - 1) ((i : Int) - p).toNat
        rw [show ((((i : Int) - p).toNat : Nat) : Int) = (i : Int) - p by omega] at hs
        have hv : -1 ≤ geti (h.set i (geti h (i : Int) - 1)) ((i : Int) - p) ∧ geti (h.set i (geti h (i : Int) - 1)) ((i : Int) - p) ≤ 3 := by
          rw [hs]
          split
          · omega
          · have h7 := g.pos ((i : Int) - p).toNat (by omega)
            have : ∀ d : Nat, d < 6 → geti h (d : Int) ≤ 3 := by
              intro d hd
              unfold menH at hmen
              rcases six hd with rfl | rfl | rfl | rfl | rfl | rfl <;> simp <;> omega
            have h8 := this ((i : Int) - p).toNat (by omega)
            rw [show ((((i : Int) - p).toNat : Nat) : Int) = (i : Int) - p by omega] at h7 h8
            omega
        rw [if_pos (decide_eq_true q2), if_pos q2, asrt_pos (by omega), asrt_pos (by omega), asrt_pos (by rw [List.length_set]; omega), w64_of (x := geti (h.set i (geti h (i : Int) - 1)) ((i : Int) - p) + 1) (by omega)]
      · rw [if_neg (by rw [decide_eq_true_eq]; exact q2), if_neg q2]
    · rw [if_neg q, if_pos (by
        unfold okM at q
        rw [Bool.and_eq_true, Bool.not_eq_true', Bool.not_eq_true'] at q
        rw [Bool.or_eq_true]
        cases e1 : (geti h (i : Int) == 0) with
        | true => exact .inl rfl
        | false =>
          refine .inr ?_
          cases e2 : (decide ((i : Int) - p < -1) && ((i : Int) != farF h 6)) with
          | true => rfl
          | false => exact absurd ⟨e1, e2⟩ q), List.append_nil]
      unfold gammon_home_moved_J5
      rw [w64_of (by omega)]
      rfl) (by
    rintro _ _
    refine ⟨_, ?_, rfl⟩
    simp only [gammon_home_moved_L2]
    rw [if_neg (by decide)])
  obtain ⟨r, hr, rfl⟩ := key
  have hr' : loop (gammon_home_moved_L2 h p (farF h 6)) ([], 0) = some ((movN h p 6).map tup6) := hr
  rw [hr', Option.bind_some]
  rfl

theorem empty_p (h : List Int) : gammon_home_empty_m h = some (emptyH h) := rfl

theorem cut_tail (p : Int) (ps : List Int) : cut (p :: ps) 1 (((p :: ps).length : Nat) : Int) = ps := by
  unfold cut
  simp

theorem getd_map {l : List (List Int)} {i : Nat} {g : List Int} (hx : l[i]? = some g) : getd ((0, 0, 0, 0, 0, 0) : T6) (l.map tup6) (i : Int) = tup6 g := by
  unfold getd
  rw [Int.toNat_natCast, List.getD_eq_getElem?_getD, List.getElem?_map, hx]
  rfl

theorem best_p {R : List (T6 × Int) → List Int → Option (Int × List (T6 × Int))} {K : Int} (hR : ∀ g m, GoodH g → pipH g < K → KM m → ∃ m', R m g = some (meanV g, m') ∧ KM m') : ∀ (ps : List Int) (h : List Int) (m : List (T6 × Int)), (∀ p ∈ ps, 1 ≤ p ∧ p ≤ 6) → GoodH h → (pipH h < K ∨ (pipH h ≤ K ∧ ps ≠ [] ∧ ¬ emptyH h = true)) → KM m →
    ∃ m', gammon_means_best_mF R (ps.length + 1) m h ps = some (bestP meanV ps h, m') ∧ KM m'
  | [], h, m, _, g, hK, hm => by
    have hK' : pipH h < K := by
      rcases hK with hK | ⟨_, hK, _⟩
      · exact hK
      · exact absurd rfl hK
    obtain ⟨m', r1, r2⟩ := hR h m g hK' hm
    refine ⟨m', ?_, r2⟩
    unfold gammon_means_best_mF gammon_means_best_B
    simp only [List.length_nil, Int.natCast_zero, BEq.rfl, Bool.not_true, Bool.false_eq_true, if_false, Option.bind_some, Bool.true_or, if_true]
    rw [r1]
    rfl
  | p :: ps, h, m, hp, g, hK, hm => by
    unfold gammon_means_best_mF gammon_means_best_B
    have hl0 : ((((p :: ps).length : Nat) : Int) == 0) = false := by
      rw [beq_eq_false_iff_ne, List.length_cons]; omega
    rw [hl0]
    simp only [Bool.not_false, if_true, Bool.false_or]
    rw [empty_p, Option.bind_some]
    unfold bestP
    by_cases e : emptyH h = true
    · have hK' : pipH h < K := by
        rcases hK with hK | ⟨_, _, hK⟩
        · exact hK
        · exact absurd e hK
      obtain ⟨m', r1, r2⟩ := hR h m g hK' hm
      refine ⟨m', ?_, r2⟩
      rw [if_pos e, if_pos e, r1]
      rfl
    · have hp1 := hp p (List.mem_cons_self ..)
      rw [if_neg e, if_neg e]
      unfold gammon_means_best_J1
      rw [asrt_pos (by rw [List.length_cons]; omega), show geti (p :: ps) 0 = p from rfl, moved_p g hp1, Option.bind_some]
      have hlm := movN_len h p 6
      generalize hmv : movN h p 6 = l at hlm ⊢
      have key := count_loop (step := gammon_means_best_L1 (gammon_means_best_mF R (ps.length + 1)) (p :: ps) (l.map tup6)) (fun (s : List (T6 × Int)) (i : Nat) => (s, minF ((l.take i).map (bestP meanV ps)), (i : Int))) (fun _ s => KM s) (fun r => ∃ m', r = (minF (l.map (bestP meanV ps)), m') ∧ KM m') l.length m hm (by
        rintro i s hi hs
        left
        obtain ⟨k, hk⟩ : ∃ k, l[i]? = some k := ⟨_, List.getElem?_eq_getElem hi⟩
        obtain ⟨j, h1, h2, rfl⟩ := mem_mov (hmv ▸ List.mem_of_getElem? hk : k ∈ movN h p 6)
        obtain ⟨g1, g2⟩ := nxt_good g hp1.1 h1 h2
        obtain ⟨m', r1, r2⟩ := best_p hR ps (nxt h p j) s (fun q hq => hp q (List.mem_cons_of_mem _ hq)) g1 (.inl (by omega)) hs
        refine ⟨m', ?_, r2⟩
        simp only [gammon_means_best_L1]
        rw [if_pos (by rw [decide_eq_true_eq, List.length_map]; omega)]
        unfold gammon_means_best_J3 gammon_means_best_J4
        rw [asrt_pos (by rw [List.length_map]; omega), asrt_pos (by rw [List.length_cons]; omega), cut_tail, getd_map hk]
        have e9 : ([(tup6 (nxt h p j)).1, (tup6 (nxt h p j)).2.1, (tup6 (nxt h p j)).2.2.1, (tup6 (nxt h p j)).2.2.2.1, (tup6 (nxt h p j)).2.2.2.2.1, (tup6 (nxt h p j)).2.2.2.2.2] : List Int) = nxt h p j := lst_tup g1.len
        rw [e9, r1, Option.bind_some]
        simp only
        rw [List.take_add_one, hk, w64_of (by omega)]
        have e8 : minF (List.map (bestP meanV ps) (l.take i ++ (some (nxt h p j)).toList)) = minB (minF (List.map (bestP meanV ps) (l.take i))) (bestP meanV ps (nxt h p j)) := by
          unfold minF
          simp [List.foldl_append]
        rw [e8]
        generalize minF (List.map (bestP meanV ps) (l.take i)) = b
        unfold minB
        by_cases q : b < 0 ∨ bestP meanV ps (nxt h p j) < b
        · rw [if_pos (by rw [Bool.or_eq_true, decide_eq_true_eq, decide_eq_true_eq]; exact q), if_pos q]
          rfl
        · rw [if_neg (by rw [Bool.or_eq_true, decide_eq_true_eq, decide_eq_true_eq]; exact q), if_neg q]
          rfl) (by
        rintro s hs
        refine ⟨_, ?_, s, rfl, hs⟩
        simp only [gammon_means_best_L1]
        rw [if_neg (by rw [decide_eq_true_eq, List.length_map]; omega), List.take_length])
      obtain ⟨r, hr, m', rfl, h3⟩ := key
      have hr' : loop (gammon_means_best_L1 (gammon_means_best_mF R (ps.length + 1)) (p :: ps) (l.map tup6)) (m, -1, 0) = some (minF (l.map (bestP meanV ps)), m') := hr
      refine ⟨m', ?_, h3⟩
      have e10 : gammon_means_best_mF R (p :: ps).length = gammon_means_best_mF R (ps.length + 1) := rfl
      rw [e10, hr', Option.bind_some]
      rfl

theorem best_pm {R : List (T6 × Int) → List Int → Option (Int × List (T6 × Int))} {h : List Int} (g : GoodH h) (he : ¬ emptyH h = true) (hR : ∀ k m, GoodH k → pipH k < pipH h → KM m → ∃ m', R m k = some (meanV k, m') ∧ KM m') {m : List (T6 × Int)} (hm : KM m) (ps : List Int) (h0 : ps ≠ []) (hp : ∀ p ∈ ps, 1 ≤ p ∧ p ≤ 6) : ∃ m', gammon_means_best_m R m h ps = some (bestP meanV ps h, m') ∧ KM m' := by
  obtain ⟨m', r1, r2⟩ := best_p hR ps h m hp g (.inr ⟨Int.le_refl _, h0, he⟩) hm
  exact ⟨m', recM_mono (fun n => gammon_means_best_mF_le _ n _ _ _) r1, r2⟩

theorem of_p : ∀ (n : Nat) (h : List Int) (m : List (T6 × Int)), GoodH h → pipH h < n → KM m → ∃ m', gammon_means_of_mF n m h = some (meanV h, m') ∧ KM m'
  | 0, h, _, g, hn, _ => by have := g.pip; omega
  | n + 1, h, m, g, hn, hm => by
    unfold gammon_means_of_mF gammon_means_of_B
    rw [empty_p, Option.bind_some]
    by_cases e : emptyH h = true
    · rw [if_pos e, meanV_eq g, if_pos e]
      exact ⟨m, rfl, hm⟩
    · rw [if_neg e]
      unfold gammon_means_of_J1
      have et : (geti h 0, geti h 1, geti h 2, geti h 3, geti h 4, geti h 5) = tup6 h := rfl
      rw [et]
      by_cases q : mhas (tup6 h) m = true
      · rw [if_pos q, hm h g q]
        exact ⟨m, rfl, hm⟩
      · rw [if_neg q]
        have hR : ∀ k m, GoodH k → pipH k < pipH h → KM m → ∃ m', gammon_means_of_mF n m k = some (meanV k, m') ∧ KM m' := fun k m gk hk hm => of_p n k m gk (by omega) hm
        unfold gammon_means_of_J2
        have row : ∀ (i : Nat) (s : Int) (m : List (T6 × Int)), i < 6 → KM m → ∃ m', loop (gammon_means_of_L2 (gammon_means_of_mF n) h ((i : Int) + 1)) (m, s, 1) = some (m', rowN meanV h ((i : Int) + 1) s 6) ∧ KM m' := by
          intro i s m hi hm
          have key := count_loop (step := gammon_means_of_L2 (gammon_means_of_mF n) h ((i : Int) + 1)) (fun (k : List (T6 × Int)) (j : Nat) => (k, rowN meanV h ((i : Int) + 1) s j, (j : Int) + 1)) (fun _ k => KM k) (fun r => ∃ m', r = (m', rowN meanV h ((i : Int) + 1) s 6) ∧ KM m') 6 m hm (by
            rintro j k hj hk
            left
            simp only [gammon_means_of_L2]
            rw [if_pos (by rw [decide_eq_true_eq]; omega)]
            unfold gammon_means_of_J6 gammon_means_of_J8 gammon_means_of_J9 gammon_means_of_J7
            rw [w64_of (x := (j : Int) + 1 + 1) (by omega)]
            have fin : ∀ m', (some (St.next (m', w64 (rowN meanV h ((i : Int) + 1) s j + thr meanV h ((i : Int) + 1) ((j : Int) + 1)), (j : Int) + 1 + 1)) : Option (St (List (T6 × Int) × Int × Int) (List (T6 × Int) × Int))) = some (.next (m', rowN meanV h ((i : Int) + 1) s (j + 1), ((j + 1 : Nat) : Int) + 1)) := fun _ => rfl
            by_cases exy : (i : Int) + 1 = (j : Int) + 1
            · rw [if_pos (by rw [beq_iff_eq]; exact exy)]
              obtain ⟨m1, r1, r2⟩ := best_pm g e hR hk [(i : Int) + 1, (i : Int) + 1, (i : Int) + 1, (i : Int) + 1] (by simp) (by simp; omega)
              refine ⟨m1, ?_, r2⟩
              rw [r1, Option.bind_some]
              simp only
              rw [if_neg (by rw [bne_iff_ne]; exact fun h => h exy), ← fin]
              unfold thr
              rw [if_pos exy]
            · rw [if_neg (by rw [beq_iff_eq]; exact exy)]
              obtain ⟨m1, r1, r2⟩ := best_pm g e hR hk [(i : Int) + 1, (j : Int) + 1] (by simp) (by simp; omega)
              obtain ⟨m2, r3, r4⟩ := best_pm g e hR r2 [(j : Int) + 1, (i : Int) + 1] (by simp) (by simp; omega)
              refine ⟨m2, ?_, r4⟩
              rw [r1, Option.bind_some]
              simp only
              rw [if_pos (by rw [bne_iff_ne]; exact exy), r3, Option.bind_some]
              simp only
              rw [← fin]
              unfold thr
              rw [if_neg exy]) (by
            rintro k hk
            refine ⟨_, ?_, k, rfl, hk⟩
            simp only [gammon_means_of_L2]
            rw [if_neg (by decide)])
          obtain ⟨r, hr, m', rfl, h3⟩ := key
          exact ⟨m', hr, h3⟩
        have key := count_loop (step := gammon_means_of_L1 (gammon_means_of_mF n) h) (fun (k : List (T6 × Int)) (i : Nat) => (k, totN meanV h i, (i : Int) + 1)) (fun _ k => KM k) (fun r => ∃ m', r = (m', totN meanV h 6) ∧ KM m') 6 m hm (by
          rintro i k hi hk
          left
          obtain ⟨m', r1, r2⟩ := row i (totN meanV h i) k hi hk
          refine ⟨m', ?_, r2⟩
          simp only [gammon_means_of_L1]
          rw [if_pos (by rw [decide_eq_true_eq]; omega)]
          unfold gammon_means_of_J4
          rw [r1, Option.bind_some]
          simp only [gammon_means_of_K2, gammon_means_of_J5]
          rw [w64_of (by omega)]
          rfl) (by
          rintro k hk
          refine ⟨_, ?_, k, rfl, hk⟩
          simp only [gammon_means_of_L1]
          rw [if_neg (by decide)])
        obtain ⟨r, hr, m', rfl, h3⟩ := key
        have hr' : loop (gammon_means_of_L1 (gammon_means_of_mF n) h) (m, 0, 1) = some (m', totN meanV h 6) := hr
        rw [hr', Option.bind_some]
        simp only [gammon_means_of_K1]
        unfold gammon_means_of_J3
        have ev : w64 (78364164096 + w64 (Int.tdiv (totN meanV h 6) 36)) = meanV h := by
          rw [meanV_eq g, if_neg e]
          rfl
        rw [ev, et, mget_mput, if_pos rfl]
        exact ⟨_, rfl, h3.put g⟩

theorem of_pm {h : List Int} (g : GoodH h) : ∃ m', gammon_means_of_m [] h = some (meanV h, m') := by
  have hp := g.pip
  obtain ⟨m', r1, _⟩ := of_p 19 h [] g (by omega) (fun k _ hk => by simp [mhas] at hk)
  exact ⟨m', gammon_means_of_m_of _ _ _ r1⟩
end Go.Proofs.Ytbmhcapeikebgaa
