/-
  SlideHomes: the whole searches, and what they answer.
-/
import Derived.Test.YtkpkkdpfcbnfdaaHnQ
namespace Go.Proofs.Ytkpkkdpfcbnfdaa
open Go Go.GL

theorem sameInts_r {a b : List Int} (ha : a.length ≤ 17592186044416) : gameroomref_sameInts_m a b = some (decide (a = b)) := by
  unfold gameroomref_sameInts_m
  by_cases hl : a.length = b.length
  · rw [if_neg (by simp [hl])]
    unfold gameroomref_sameInts_J1
    have h := count_loop (step := gameroomref_sameInts_L1 a b) (fun (_ : Unit) k => (k : Int)) (fun k _ => ∀ i, i < k → a[i]? = b[i]?) (fun r => gameroomref_sameInts_K1 r = some (decide (a = b))) a.length () (fun i hi => by omega) ?_ ?_
    · obtain ⟨r, h1, h2⟩ := h
      have h1' : loop (gameroomref_sameInts_L1 a b) 0 = some r := h1
      rw [h1']
      exact h2
    · intro i _ hi hI
      obtain ⟨x, hx⟩ : ∃ x, a[i]? = some x := ⟨_, List.getElem?_eq_getElem hi⟩
      obtain ⟨y, hy⟩ : ∃ y, b[i]? = some y := ⟨_, List.getElem?_eq_getElem (by omega)⟩
      simp only [gameroomref_sameInts_L1, gameroomref_sameInts_J3]
      rw [if_pos (by simpa using hi), asrt_pos (idx_bd hx), asrt_pos (idx_bd hy), geti_some hx, geti_some hy]
      by_cases hxy : x = y
      · left
        rw [if_neg (by simp [hxy])]
        refine ⟨(), by simp only [gameroomref_sameInts_J4]; rw [w64_succ (by omega)]; rfl, fun j hj => ?_⟩
        by_cases hji : j = i
        · subst hji; rw [hx, hy, hxy]
        · exact hI j (by omega)
      · right
        rw [if_pos (by simp [hxy])]
        refine ⟨_, rfl, ?_⟩
        have hne : a ≠ b := fun h => hxy (by rw [h, hy] at hx; exact (Option.some.inj hx).symm)
        simp [gameroomref_sameInts_K1, hne]
    · intro _ hI
      refine ⟨Fl.go (), ?_, ?_⟩
      · simp only [gameroomref_sameInts_L1]
        rw [if_neg (by simp)]
      · have : a = b := by
          apply List.ext_getElem?
          intro i
          by_cases hi : i < a.length
          · exact hI i hi
          · rw [List.getElem?_eq_none (by omega), List.getElem?_eq_none (by omega)]
        simp [gameroomref_sameInts_K1, gameroomref_sameInts_J2, this]
  · rw [if_pos (by simp; omega)]
    have : a ≠ b := fun h => hl (by rw [h])
    simp [this]
theorem sameGrid_eq (a1 a2 : Int) {a3 : List Int} (b1 b2 : Int) (b3 : List Int) (ha : a3.length ≤ 17592186044416) : gameroomref_SameGrid_m a1 a2 a3 b1 b2 b3 = some (decide ((a1, a2, a3) = (b1, b2, b3))) := by
  unfold gameroomref_SameGrid_m
  by_cases h : a1 = b1 ∧ a2 = b2
  · obtain ⟨rfl, rfl⟩ := h
    simp only [beq_self_eq_true, Bool.and_self, if_true]
    rw [sameInts_r ha]
    simp
  · have h9 : ((a1 == b1) && (a2 == b2)) = false := by
      rw [Bool.and_eq_false_iff]
      simp only [beq_eq_false_iff_ne]
      by_cases q : a1 = b1
      · exact .inr fun r => h ⟨q, r⟩
      · exact .inl q
    rw [h9]
    simp only [Bool.false_eq_true, if_false, Option.bind_some, Bool.false_and]
    congr 1
    symm
    rw [decide_eq_false_iff_not]
    intro q
    injection q with q1 q2
    injection q2 with q2 q3
    exact h ⟨q1, q2⟩

theorem homeB_eq (n : Nat) : homeB n = ci (homeN n) := by
  unfold homeB ci homeN mr
  rw [List.map_map]; rfl
theorem homeN_length (n : Nat) : (homeN n).length = n := by simp [homeN]
theorem S0_eq (n : Nat) : S0 n = [(homeN n, n - 1, 0, 4)] := rfl

theorem fin {w h : Nat} (s : Shp w h) : ∃ F, bfs w h 400 (S0 (w * h)) 0 = F ∧ Done w h F ∧ ∀ e ∈ F, e.2.2.1 ≤ 400 := by
  refine ⟨_, rfl, ?_, fun e he => ?_⟩
  · rcases s with ⟨rfl, rfl⟩ | ⟨rfl, rfl⟩ | ⟨rfl, rfl⟩
    · show Done 2 2 (bfs 2 2 400 (S0 4) 0)
      rw [tb22_eq]; exact done_of tb22_ok
    · show Done 2 3 (bfs 2 3 400 (S0 6) 0)
      rw [tb23_eq]; exact done_of tb23_ok
    · show Done 3 2 (bfs 3 2 400 (S0 6) 0)
      rw [tb32_eq]; exact done_of tb32_ok
  · have := far_le (w := w) (h := h) 400 (S0 (w * h)) 0 0 (fun x hx => by
      rw [S0_eq, List.mem_singleton] at hx
      subst hx; exact Nat.le_refl _) e he
    omega

section
variable {w h : Nat} (s : Shp w h) {F : List Ent} (D : Done w h F) (hb : bfs w h 400 (S0 (w * h)) 0 = F)
include s D hb

omit s D in
theorem S0_pre : S0 (w * h) <+: F := hb ▸ bfs_pre 400 _ _
omit s D in
theorem home_mem : ((homeN (w * h), w * h - 1, 0, 4) : Ent) ∈ F := (S0_pre hb).mem (by simp [S0_eq])
omit s in
theorem home_brd : Brd w h (homeN (w * h)) (w * h - 1) := (el_ok (D.el _ (home_mem hb))).1

theorem far_r (hF : ∀ e ∈ F, e.2.2.1 ≤ 400) : gameroomref_SlideFar_m w h = some (gAll w h F, gFar F) := by
  have n6 := s.n6
  have hD := D.len
  have hm := home_mem hb
  have b := home_brd D hb
  have e1 : w64 ((w : Int) * h) = ((w * h : Nat) : Int) := by rw [← Int.natCast_mul, w64_nat (by omega)]
  have hfac := fac_bd (w * h) (by omega)
  have hlt : NmN (homeN (w * h)) < fac (w * h) := by
    rw [NmN_eq]
    have := Nm_lt (ci (homeN (w * h)))
    rwa [ci_length, homeN_length] at this
  unfold gameroomref_SlideFar_m
  rw [home_r s.w s.h (by omega), Option.bind_some, e1, factorial_r (by omega), Option.bind_some, asrt_pos ⟨by omega, by unfold bigN; omega⟩, asrt_pos ⟨by omega, by omega⟩]
  have hg : getd zP32 ([((w : Int), (h : Int), homeB (w * h))] : List (Int × Int × List Int)) 0 = ((w : Int), (h : Int), ci (homeN (w * h))) := by rw [homeB_eq]; rfl
  rw [hg]
  dsimp only
  rw [number_r (by rw [ci_length, homeN_length]; omega), Option.bind_some, ← NmN_eq, asrt_pos (by rw [Int.toNat_natCast]; omega), Int.toNat_natCast, Int.toNat_natCast]
  have key := doc_out s D hF 400 (S0 (w * h)) 0 ((List.replicate (fac (w * h)) false).set (NmN (homeN (w * h))) true) hb (by omega) (by simp) (fun x hx => by
    rw [getb_set (by simpa using hlt), S0_eq]
    have h0 : getb (List.replicate (fac (w * h)) false) ((NmN x.1 : Nat) : Int) = false := by
      unfold getb
      rw [List.getD_eq_getElem?_getD, List.getElem?_replicate]
      split <;> rfl
    rw [h0]
    by_cases u : NmN x.1 = NmN (homeN (w * h))
    · have := inj_of_nodup D.nm x hx _ hm u
      rw [if_pos u, this]
      simp [has, eqn_iff]
    · rw [if_neg u]
      symm
      rw [← Bool.not_eq_true, has_iff]
      rintro ⟨y, hy, hyx⟩
      rw [List.mem_singleton] at hy
      subst hy
      exact u (by rw [← hyx]))
  have e2 : gAll w h (S0 (w * h)) = [((w : Int), (h : Int), homeB (w * h))] := by rw [homeB_eq]; rfl
  have e3 : gFar (S0 (w * h)) = [0] := rfl
  rw [e2, e3] at key
  have key2 : loop (gameroomref_SlideFar_L1 ((fac (w * h) : Nat) : Int)) ([((w : Int), (h : Int), homeB (w * h))], [0], (List.replicate (fac (w * h)) false).set (NmN (homeN (w * h))) true, 0) = some (gAll w h F, gFar F) := key
  rw [key2]; rfl

omit D hb in
theorem came0 : CameI (w * h) (([] : List Ent) ++ S0 (w * h)) (mput (nk (homeN (w * h))) (-1) ([] : List (Key6 × Int))) := by
  have hl := homeN_length (w * h)
  constructor
  · intro c hc
    rw [mhas_mput, List.nil_append, S0_eq]
    show (decide (nk c = nk (homeN (w * h))) || false) = _
    rw [Bool.or_false, Bool.eq_iff_iff, decide_eq_true_eq, has_iff]
    constructor
    · intro u
      exact ⟨_, List.mem_singleton.2 rfl, (nk_inj (by rw [hc]; exact s.n) (by rw [hl, hc]) u).symm⟩
    · rintro ⟨y, hy, hyx⟩
      rw [List.mem_singleton] at hy
      subst hy
      rw [← hyx]
  · intro e he
    rw [List.nil_append, S0_eq, List.mem_singleton] at he
    subst he
    rw [mget_mput, if_pos rfl]; rfl

omit D hb in
theorem start_p : ∃ r, slide_nameOf_m (homeB (w * h)) = some r ∧ ((geti r 0, geti r 1, geti r 2, geti r 3, geti r 4, geti r 5) : Key6) = nk (homeN (w * h)) := by
  rw [homeB_eq]
  exact name_p (by rw [homeN_length]; exact s.n)
theorem ring0 : slide_newTray_m w h (homeB (w * h)) = some ((w : Int), (h : Int), homeB (w * h), ((w * h - 1 : Nat) : Int)) := by
  rw [homeB_eq]
  exact tray_p s (home_brd D hb)

theorem count_p {st : Nat} (hst : st ≤ 40) : slide_Count_m w h st = some (((cntF F st : Nat) : Int), 0) := by
  have n6 := s.n6
  have hw := s.w
  have hh := s.h
  have hD := D.len
  have e1 : w64 ((w : Int) * h) = ((w * h : Nat) : Int) := by rw [← Int.natCast_mul, w64_nat (by omega)]
  obtain ⟨r, hr, hk⟩ := start_p s
  obtain ⟨x, hx⟩ := count_out s D 400 [] (S0 (w * h)) _ 0 st (by simpa using hb) (by simp; omega) (came0 s) (by simp) (fun e he => by
    rw [S0_eq, List.mem_singleton] at he
    subst he; rfl) (by omega)
  have hg : gTr w h (S0 (w * h)) = [((w : Int), (h : Int), homeB (w * h), ((w * h - 1 : Nat) : Int))] := by rw [homeB_eq]; rfl
  rw [hg, Nat.zero_add] at hx
  unfold slide_Count_m slide_far_m
  have f1 : (decide ((w : Int) < 2) || decide ((5 : Int) < w)) = false := by simp; omega
  have f2 : (decide ((h : Int) < 2) || decide ((5 : Int) < h)) = false := by simp; omega
  rw [Option.bind_some, f1, if_pos (by decide), Option.bind_some, f2, e1, if_neg (by simp; omega), if_neg (by simp; omega)]
  unfold slide_Count_J1
  rw [home_p s.w s.h (by omega), Option.bind_some]
  dsimp only
  unfold slide_rings_2_m
  rw [hr, Option.bind_some, ring0 s D hb, Option.bind_some, hk, hx, Option.bind_some]
  rfl

theorem home_pp {e0 : Ent} (he0 : e0 ∈ F) (hF : ∀ e ∈ F, e.2.2.1 ≤ 400) : ∃ l : List Int, l.length = e0.2.2.1 ∧ Way w h e0.1 e0.2.1 l ∧ slide_Home_J1 w h (ci e0.1) = some (l, 0) := by
  have n6 := s.n6
  have hD := D.len
  obtain ⟨r, hr, hk⟩ := start_p s
  obtain ⟨l, hl, hw, hx⟩ := home_out s D he0 (hF e0 he0) 400 [] (S0 (w * h)) _ (by simpa using hb) (by simp; omega) (came0 s) rfl
  have hg : gTr w h (S0 (w * h)) = [((w : Int), (h : Int), homeB (w * h), ((w * h - 1 : Nat) : Int))] := by rw [homeB_eq]; rfl
  rw [hg] at hx
  refine ⟨l, hl, hw, ?_⟩
  unfold slide_Home_J1
  rw [home_p s.w s.h (by omega), Option.bind_some]
  dsimp only
  unfold slide_rings_m
  rw [hr, Option.bind_some, ring0 s D hb, Option.bind_some, hk, hx, Option.bind_some]
  rfl
end
end Go.Proofs.Ytkpkkdpfcbnfdaa
