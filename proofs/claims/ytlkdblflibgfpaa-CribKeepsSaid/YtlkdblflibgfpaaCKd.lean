/-
  CribKeeps: the kept cards gone through, the program's way and the document's.
-/
import Derived.Test.YtlkdblflibgfpaaCKc
namespace Go.Proofs.Ytlkdblflibgfpaa
open Go Go.GL

theorem contains_p {l : List Int} (v : Int) (hs : l.length ≤ 17592186044416) : slices_Contains_m l v = some (l.any (fun x => x == v)) := by
  unfold slices_Contains_m slices_Index_m
  rw [search_loop (l := l) (fun x => x == v) (fun i => Fl.ret (i : Int)) (Fl.go ()) ?_ ?_ ?_]
  · have hn := fidx_neg (fun x => x == v) l
    unfold fidx at hn
    cases hf : l.findIdx? (fun x => x == v) with
    | none =>
      rw [hf] at hn
      have : l.any (fun x => x == v) = false := by
        rw [Bool.eq_false_iff]
        intro h; have := hn.2 h; simp at this
      rw [this]; rfl
    | some i =>
      rw [hf] at hn
      have : l.any (fun x => x == v) = true := hn.1 (by simp)
      rw [this]
      simp [slices_Index_K1]
  · intro i x hx hp
    have hb := idx_bd hx
    simp only [slices_Index_L1, slices_Index_J2]
    rw [if_pos (by simpa using hb.2), asrt_pos hb, geti_some hx, if_pos (by rw [beq_iff_eq] at hp ⊢; exact hp.symm)]
  · intro i x hx hp
    have hb := idx_bd hx
    simp only [slices_Index_L1, slices_Index_J2]
    rw [if_pos (by simpa using hb.2), asrt_pos hb, geti_some hx, if_neg (by intro q; rw [beq_iff_eq] at q; rw [q] at hp; simp at hp)]
    simp only [slices_Index_J3]
    rw [w64_succ (by omega)]
  · simp only [slices_Index_L1]
    rw [if_neg (by simp)]


/-- A loop of loops is one pass along the list of what they reach. -/
theorem nest {α σ S R : Type} {step : S → Option (St S R)} (mk : σ → Nat → S) (out : σ → R) (f : σ → α → σ) (g : Nat → List α) (I : σ → Prop) (i0 n : Nat)
    (h2 : ∀ i s, i0 ≤ i → i < n → I s → step (mk s i) = some (.next (mk ((g i).foldl f s) (i + 1))) ∧ I ((g i).foldl f s)) (h3 : ∀ s, I s → step (mk s n) = some (.done (out s))) :
    ∀ m i s, i0 ≤ i → i + m = n → I s → loop step (mk s i) = some (out (((List.range' i m).flatMap g).foldl f s)) ∧ I (((List.range' i m).flatMap g).foldl f s)
  | 0, i, s, _, hi, hI => by
    obtain rfl : i = n := by omega
    exact ⟨loop_done (h3 s hI), hI⟩
  | m + 1, i, s, h0, hi, hI => by
    obtain ⟨a, b⟩ := h2 i s h0 (by omega) hI
    obtain ⟨c, d⟩ := nest mk out f g I i0 n h2 h3 m (i + 1) _ (by omega) (by omega) b
    rw [List.range'_succ, List.flatMap_cons, List.foldl_append]
    exact ⟨loop_next' a c, d⟩

/-- What a hand shows. -/
noncomputable def shw (l : List Int) : Int := (crib_show_m l false).getD 0
theorem shw_both {l : List Int} (hl : l.length = 5) (hc : ∀ x ∈ l, Card x) (hn : l.Nodup) : crib_show_m l false = some (shw l) ∧ gameroomref_ShowOf_m l false = some (shw l) ∧ 0 ≤ shw l ∧ shw l ≤ 20000000000000000 := by
  obtain ⟨v, v0, v1, v2, v3⟩ := show_both hl hc hn false
  have e : shw l = v := by unfold shw; rw [v2]; rfl
  rw [e]; exact ⟨v2, v3, v0, v1⟩

section
variable {h : List Int} (hl : h.length = 6) (hc : ∀ x ∈ h, Card x) (hn : h.Nodup)

/-- The cards at places. -/
def cds (h k : List Int) : List Int := k.map (geti h)
/-- One start's part. -/
noncomputable def prt (h k : List Int) (z : Nat) : Int := if (z : Int) ∈ h then 0 else shw (cds h k ++ [(z : Int)])
/-- What kept cards show over all starts. -/
noncomputable def tot (h k : List Int) : Int := sm 52 (prt h k)
/-- Four places in order. -/
def Ks (k : List Int) : Prop := ∃ a b c d : Nat, a < b ∧ b < c ∧ c < d ∧ d < 6 ∧ k = [(a : Int), (b : Int), (c : Int), (d : Int)]

include hl hc hn
theorem five_ok {a b c d z : Nat} (h1 : a < b) (h2 : b < c) (h3 : c < d) (h4 : d < 6) (hz : z < 52) (hm : ¬ (z : Int) ∈ h) : (∀ x ∈ cds h [(a : Int), (b : Int), (c : Int), (d : Int)] ++ [(z : Int)], Card x) ∧ (cds h [(a : Int), (b : Int), (c : Int), (d : Int)] ++ [(z : Int)]).Nodup := by
  have ma : geti h (a : Int) ∈ h := geti_mem (by omega)
  have mb : geti h (b : Int) ∈ h := geti_mem (by omega)
  have mc : geti h (c : Int) ∈ h := geti_mem (by omega)
  have md : geti h (d : Int) ∈ h := geti_mem (by omega)
  have inj : ∀ i j : Nat, i < j → j < 6 → geti h (i : Int) ≠ geti h (j : Int) := fun i j hij hj e => by
    have gi := get_geti (l := h) (i := i) (by omega)
    have gj := get_geti (l := h) (i := j) (by omega)
    rw [List.getElem?_eq_getElem (by omega)] at gi gj
    exact (List.pairwise_iff_getElem.1 hn) i j (by omega) (by omega) hij ((Option.some.inj gi).trans (e.trans (Option.some.inj gj).symm))
  have nz : ∀ x ∈ h, x ≠ (z : Int) := fun x hx e => hm (by rw [← e]; exact hx)
  constructor
  · intro x hx
    simp only [cds, List.map_cons, List.map_nil, List.cons_append, List.nil_append, List.mem_cons, List.not_mem_nil, or_false] at hx
    rcases hx with rfl | rfl | rfl | rfl | rfl
    · exact hc _ ma
    · exact hc _ mb
    · exact hc _ mc
    · exact hc _ md
    · exact ⟨by omega, by omega⟩
  · simp only [cds, List.map_cons, List.map_nil, List.cons_append, List.nil_append, List.nodup_cons, List.mem_cons, List.not_mem_nil, or_false, not_or, not_false_eq_true, List.nodup_nil, and_true]
    exact ⟨⟨inj a b h1 (by omega), inj a c (by omega) (by omega), inj a d (by omega) h4, nz _ ma⟩, ⟨inj b c h2 (by omega), inj b d (by omega) h4, nz _ mb⟩, ⟨inj c d h3 h4, nz _ mc⟩, nz _ md⟩

theorem prt_bd {k : List Int} (hk : Ks k) {z : Nat} (hz : z < 52) : 0 ≤ prt h k z ∧ prt h k z ≤ 20000000000000000 := by
  obtain ⟨a, b, c, d, h1, h2, h3, h4, rfl⟩ := hk
  unfold prt
  split
  · omega
  · rename_i q
    obtain ⟨o1, o2⟩ := five_ok hl hc hn h1 h2 h3 h4 hz q
    exact (shw_both rfl o1 o2).2.2

theorem tot_bd {k : List Int} (hk : Ks k) : 0 ≤ tot h k ∧ ∀ z, z ≤ 52 → 0 ≤ sm z (prt h k) ∧ sm z (prt h k) ≤ 2000000000000000000 := by
  have key : ∀ z, z ≤ 52 → 0 ≤ sm z (prt h k) ∧ sm z (prt h k) ≤ 2000000000000000000 := fun z hz => by
    have := sm_bd (f := prt h k) (a := 0) (b := 20000000000000000) z (fun i hi => prt_bd hl hc hn hk (by omega))
    omega
  exact ⟨(key 52 (by omega)).1, key⟩

theorem total_p {a b c d : Nat} (h1 : a < b) (h2 : b < c) (h3 : c < d) (h4 : d < 6) : ∃ e : Int, loop (crib_Keep_L5 h) (([geti h a, geti h b, geti h c, geti h d, 0] : List Int), 0, 0) = some ([geti h a, geti h b, geti h c, geti h d, e], tot h [(a : Int), (b : Int), (c : Int), (d : Int)]) := by
  have hk : Ks [(a : Int), (b : Int), (c : Int), (d : Int)] := ⟨a, b, c, d, h1, h2, h3, h4, rfl⟩
  obtain ⟨r, e1, e, rfl⟩ := count_loop (step := crib_Keep_L5 h) (fun (s : Int × Int) (i : Nat) => (([geti h a, geti h b, geti h c, geti h d, s.1] : List Int), s.2, (i : Int))) (fun i s => s.2 = sm i (prt h [(a : Int), (b : Int), (c : Int), (d : Int)])) (fun r => ∃ e, r = (([geti h a, geti h b, geti h c, geti h d, e] : List Int), tot h [(a : Int), (b : Int), (c : Int), (d : Int)])) 52 (0, 0) rfl (by
    rintro z ⟨e, s⟩ hz hI
    dsimp only at hI
    left
    have b1 := (tot_bd hl hc hn hk).2 z (by omega)
    have b2 := (tot_bd hl hc hn hk).2 (z + 1) (by omega)
    rw [sm_succ] at b2
    by_cases q : (z : Int) ∈ h
    · have hp : prt h [(a : Int), (b : Int), (c : Int), (d : Int)] z = 0 := if_pos q
      refine ⟨(e, s), ?_, by rw [sm_succ, hp, hI]; simp⟩
      simp only [crib_Keep_L5, crib_Keep_J13, crib_Keep_J14]
      rw [if_pos (decide_eq_true (by omega)), contains_p (z : Int) (by omega), Option.bind_some, if_neg (by rw [List.any_eq_true.2 ⟨(z : Int), q, by simp⟩]; decide), w64_of (by omega)]; rfl
    · have hp : prt h [(a : Int), (b : Int), (c : Int), (d : Int)] z = shw (cds h [(a : Int), (b : Int), (c : Int), (d : Int)] ++ [(z : Int)]) := if_neg q
      obtain ⟨o1, o2⟩ := five_ok hl hc hn h1 h2 h3 h4 hz q
      obtain ⟨s1, s2, s3, s4⟩ := shw_both rfl o1 o2
      refine ⟨((z : Int), s + prt h [(a : Int), (b : Int), (c : Int), (d : Int)] z), ?_, by rw [sm_succ, hI]⟩
      simp only [crib_Keep_L5, crib_Keep_J13, crib_Keep_J14]
      have hany : h.any (fun x => x == (z : Int)) = false := by
        rw [Bool.eq_false_iff]
        intro w
        obtain ⟨x, hx, e⟩ := List.any_eq_true.1 w
        rw [beq_iff_eq] at e
        exact q (by rw [← e]; exact hx)
      have hset : ([geti h a, geti h b, geti h c, geti h d, e] : List Int).set (Int.toNat 4) (z : Int) = cds h [(a : Int), (b : Int), (c : Int), (d : Int)] ++ [(z : Int)] := rfl
      rw [if_pos (decide_eq_true (by omega)), contains_p (z : Int) (by omega), Option.bind_some, hany, if_pos (by decide), asrt_pos (by omega), hset, s1, Option.bind_some, ← hp, w64_of (x := (z : Int) + 1) (by omega), w64_of (by omega)]; rfl) (by
    rintro ⟨e, s⟩ hI
    dsimp only at hI
    refine ⟨_, ?_, e, rfl⟩
    simp only [crib_Keep_L5]
    rw [if_neg (by decide), hI]; rfl)
  exact ⟨e, e1⟩

theorem total_r {a b c d : Nat} (h1 : a < b) (h2 : b < c) (h3 : c < d) (h4 : d < 6) : loop (gameroomref_KeepOf_L4 h [(a : Int), (b : Int), (c : Int), (d : Int)]) (0, 0) = some (tot h [(a : Int), (b : Int), (c : Int), (d : Int)]) := by
  have hk : Ks [(a : Int), (b : Int), (c : Int), (d : Int)] := ⟨a, b, c, d, h1, h2, h3, h4, rfl⟩
  refine loop_from (r := tot h [(a : Int), (b : Int), (c : Int), (d : Int)]) (fun z => (sm z (prt h [(a : Int), (b : Int), (c : Int), (d : Int)]), (z : Int))) 52 rfl ?_ ?_
  · intro z hz
    have b1 := (tot_bd hl hc hn hk).2 z (by omega)
    have b2 := (tot_bd hl hc hn hk).2 (z + 1) (by omega)
    rw [sm_succ] at b2
    obtain ⟨v, v1, v2⟩ := at_r (l := h) (z : Int) (by omega)
    simp only [gameroomref_KeepOf_L4, gameroomref_KeepOf_J10, gameroomref_KeepOf_J11]
    rw [if_pos (decide_eq_true (by omega)), v1, Option.bind_some, sm_succ]
    by_cases q : (z : Int) ∈ h
    · have hp : prt h [(a : Int), (b : Int), (c : Int), (d : Int)] z = 0 := if_pos q
      have := v2.2 q
      rw [if_neg (by rw [decide_eq_true_eq]; omega), w64_of (by omega), hp, Int.add_zero]; rfl
    · have hp : prt h [(a : Int), (b : Int), (c : Int), (d : Int)] z = shw (cds h [(a : Int), (b : Int), (c : Int), (d : Int)] ++ [(z : Int)]) := if_neg q
      obtain ⟨o1, o2⟩ := five_ok hl hc hn h1 h2 h3 h4 hz q
      obtain ⟨s1, s2, s3, s4⟩ := shw_both rfl o1 o2
      have hv : v < 0 := by
        rcases Int.lt_or_le v 0 with w | w
        · exact w
        · exact absurd (v2.1 w) q
      have k0 : geti [(a : Int), (b : Int), (c : Int), (d : Int)] 0 = (a : Int) := rfl
      have k1 : geti [(a : Int), (b : Int), (c : Int), (d : Int)] 1 = (b : Int) := rfl
      have k2 : geti [(a : Int), (b : Int), (c : Int), (d : Int)] 2 = (c : Int) := rfl
      have k3 : geti [(a : Int), (b : Int), (c : Int), (d : Int)] 3 = (d : Int) := rfl
      have kl : ([(a : Int), (b : Int), (c : Int), (d : Int)].length : Int) = 4 := rfl
      have hset : ([geti h a, geti h b, geti h c, geti h d, (z : Int)] : List Int) = cds h [(a : Int), (b : Int), (c : Int), (d : Int)] ++ [(z : Int)] := rfl
      rw [if_pos (decide_eq_true hv), k0, k1, k2, k3, kl, asrt_pos (by omega), asrt_pos (by omega), asrt_pos (by omega), asrt_pos (by omega), asrt_pos (by omega), asrt_pos (by omega), asrt_pos (by omega), asrt_pos (by omega), hset, s2, Option.bind_some, ← hp, w64_of (x := (z : Int) + 1) (by omega), w64_of (by omega)]; rfl
  · simp only [gameroomref_KeepOf_L4]
    rw [if_neg (by decide)]; rfl
end

/-- The program's step: a better hand is taken. -/
noncomputable def fP (h : List Int) (s : List Int × Int) (k : List Int) : List Int × Int := if s.2 < tot h k then (cds h k, tot h k) else s

/-- The program's hands, in its order. -/
def g4 (a b c d : Nat) : List (List Int) := [[(a : Int), (b : Int), (c : Int), (d : Int)]]
def g3 (a b c : Nat) : List (List Int) := (List.range' (c + 1) (5 - c)).flatMap (g4 a b c)
def g2 (a b : Nat) : List (List Int) := (List.range' (b + 1) (5 - b)).flatMap (g3 a b)
def g1 (a : Nat) : List (List Int) := (List.range' (a + 1) (5 - a)).flatMap (g2 a)
def subs : List (List Int) := (List.range' 0 6).flatMap g1

section
variable {h : List Int} (hl : h.length = 6) (hc : ∀ x ∈ h, Card x) (hn : h.Nodup)
include hl hc hn

theorem k4 {a b c : Nat} (h1 : a < b) (h2 : b < c) (h3 : c < 6) (s : List Int × Int) : loop (crib_Keep_L4 h a b c) (s.1, s.2, ((c + 1 : Nat) : Int)) = some ((g3 a b c).foldl (fP h) s) := by
  refine (nest (step := crib_Keep_L4 h a b c) (fun (s : List Int × Int) (i : Nat) => (s.1, s.2, (i : Int))) (fun s => s) (fP h) (g4 a b c) (fun _ => True) (c + 1) 6 (fun d s hd hd6 _ => ⟨?_, trivial⟩) (fun s _ => ?_) (5 - c) (c + 1) s (Nat.le_refl _) (by omega) trivial).1
  · obtain ⟨e, he⟩ := total_p hl hc hn h1 h2 (show c < d by omega) hd6
    simp only [crib_Keep_L4, crib_Keep_J10]
    rw [if_pos (decide_eq_true (by omega)), asrt_pos (by omega), asrt_pos (by omega), asrt_pos (by omega), asrt_pos (by omega), he, Option.bind_some]
    simp only [crib_Keep_K5, crib_Keep_J12, crib_Keep_J11]
    have hf : (g4 a b c d).foldl (fP h) s = fP h s [(a : Int), (b : Int), (c : Int), (d : Int)] := rfl
    rw [hf]
    unfold fP
    by_cases q : s.2 < tot h [(a : Int), (b : Int), (c : Int), (d : Int)]
    · have hcut : cut ([geti h a, geti h b, geti h c, geti h d, e] : List Int) (0 : Int) (4 : Int) = cds h [(a : Int), (b : Int), (c : Int), (d : Int)] := rfl
      unfold slices_Clone_m slices_Clone_J1
      rw [if_pos (decide_eq_true q), if_pos q, asrt_pos (by omega), hcut, asrt_pos (by unfold bigN; show (0 : Int) + 4 ≤ _; omega), Option.bind_some, List.nil_append, w64_of (by omega)]; rfl
    · rw [if_neg (by rw [decide_eq_true_eq]; exact q), if_neg q, w64_of (by omega)]; rfl
  · simp only [crib_Keep_L4]
    rw [if_neg (by decide)]

theorem k3 {a b : Nat} (h1 : a < b) (h2 : b < 6) (s : List Int × Int) : loop (crib_Keep_L3 h a b) (s.1, s.2, ((b + 1 : Nat) : Int)) = some ((g2 a b).foldl (fP h) s) := by
  refine (nest (step := crib_Keep_L3 h a b) (fun (s : List Int × Int) (i : Nat) => (s.1, s.2, (i : Int))) (fun s => s) (fP h) (g3 a b) (fun _ => True) (b + 1) 6 (fun c s hd hd6 _ => ⟨?_, trivial⟩) (fun s _ => ?_) (5 - b) (b + 1) s (Nat.le_refl _) (by omega) trivial).1
  · have e := k4 hl hc hn h1 (show b < c by omega) hd6 s
    simp only [crib_Keep_L3, crib_Keep_J8]
    rw [if_pos (decide_eq_true (by omega)), w64_of (by omega), show (c : Int) + 1 = ((c + 1 : Nat) : Int) by omega, e, Option.bind_some]
    simp only [crib_Keep_K4, crib_Keep_J9]
    rw [w64_of (by omega)]; rfl
  · simp only [crib_Keep_L3]
    rw [if_neg (by decide)]

theorem k2 {a : Nat} (h1 : a < 6) (s : List Int × Int) : loop (crib_Keep_L2 h a) (s.1, s.2, ((a + 1 : Nat) : Int)) = some ((g1 a).foldl (fP h) s) := by
  refine (nest (step := crib_Keep_L2 h a) (fun (s : List Int × Int) (i : Nat) => (s.1, s.2, (i : Int))) (fun s => s) (fP h) (g2 a) (fun _ => True) (a + 1) 6 (fun b s hd hd6 _ => ⟨?_, trivial⟩) (fun s _ => ?_) (5 - a) (a + 1) s (Nat.le_refl _) (by omega) trivial).1
  · have e := k3 hl hc hn (show a < b by omega) hd6 s
    simp only [crib_Keep_L2, crib_Keep_J6]
    rw [if_pos (decide_eq_true (by omega)), w64_of (by omega), show (b : Int) + 1 = ((b + 1 : Nat) : Int) by omega, e, Option.bind_some]
    simp only [crib_Keep_K3, crib_Keep_J7]
    rw [w64_of (by omega)]; rfl
  · simp only [crib_Keep_L2]
    rw [if_neg (by decide)]

theorem k1 : crib_Keep_J2 h = some ((subs.foldl (fP h) ([], -1)).1, (subs.foldl (fP h) ([], -1)).2, 0) := by
  have key := (nest (step := crib_Keep_L1 h) (fun (s : List Int × Int) (i : Nat) => (s.1, s.2, (i : Int))) (fun s => s) (fP h) g1 (fun _ => True) 0 6 (fun a s hd hd6 _ => ⟨by
    have e := k2 hl hc hn hd6 s
    simp only [crib_Keep_L1, crib_Keep_J4]
    rw [if_pos (decide_eq_true (by omega)), w64_of (by omega), show (a : Int) + 1 = ((a + 1 : Nat) : Int) by omega, e, Option.bind_some]
    simp only [crib_Keep_K2, crib_Keep_J5]
    rw [w64_of (by omega)]; rfl, trivial⟩) (fun s _ => by
    simp only [crib_Keep_L1]
    rw [if_neg (by decide)]) 6 0 ([], -1) (Nat.le_refl _) rfl trivial).1
  unfold crib_Keep_J2
  have key' : loop (crib_Keep_L1 h) (([] : List Int), -1, 0) = some (subs.foldl (fP h) ([], -1)) := key
  rw [key']; rfl
end
end Go.Proofs.Ytlkdblflibgfpaa
