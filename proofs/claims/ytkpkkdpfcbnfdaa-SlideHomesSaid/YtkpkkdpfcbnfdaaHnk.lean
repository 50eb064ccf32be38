/-
  SlideHomes: the law.
-/
import Derived.Test.YtkpkkdpfcbnfdaaHnj
namespace Go.Proofs.Ytkpkkdpfcbnfdaa
open Go Go.GL

theorem gapN_eq : ∀ c : List Nat, gapN c = pos (ci c) 0
  | [] => rfl
  | 0 :: t => by simp [gapN, pos, ci, List.findIdx_cons]
  | (x + 1) :: t => by
    have h := gapN_eq t
    unfold pos at h ⊢
    simp only [gapN, ci, List.map_cons, List.findIdx_cons]
    have : (((x + 1 : Nat) : Int) == ((0 : Nat) : Int)) = false := by simp; omega
    rw [this]
    simp only [cond_false]
    rw [h]; rfl
theorem val_ci (c : List Nat) (i : Nat) : val (ci c) i = c.getD i 0 := by
  unfold val
  rw [ci_geti, Int.toNat_natCast]
theorem invA_ci (c : List Nat) (n : Nat) : invA (ci c) n = ((smN n (fun i => smN i (fun k => if 0 < c.getD i 0 ∧ c.getD i 0 < c.getD k 0 then 1 else 0)) : Nat) : Int) := by
  unfold invA
  rw [← smN_eq]
  refine sm_congr n fun i _ => ?_
  rw [← smN_eq]
  refine sm_congr i fun k _ => ?_
  rw [val_ci, val_ci]
  split <;> rfl
theorem ord_ci {l : List Int} (ho : Ord l) : ∃ c : List Nat, l = ci c := by
  refine ⟨l.map Int.toNat, ?_⟩
  unfold ci
  rw [List.map_map]
  symm
  conv => rhs; rw [← List.map_id l]
  apply List.map_congr_left
  intro x hx
  have := (ho.bd hx).1
  simp; omega

section
variable {w h : Nat} (s : Shp w h)
include s
theorem par_eq {c : List Nat} (hc : c.length = w * h) (ho : Ord (ci c)) : slide_parity_m w h (ci c) = some ((parN w h c (gapN c) : Nat) : Int) := by
  have hw := s.w
  have hh := s.h
  have n6 := s.n6
  rw [parity_p s.w (by omega) (by rw [ci_length, hc]) ho s.h, invA_ci, gapN_eq]
  have hg := (Gap.ord ho (by rw [ci_length]; omega)).1
  rw [ci_length, hc] at hg
  have hy : pos (ci c) 0 / w < h := Nat.div_lt_of_lt_mul hg
  unfold parN
  generalize pos (ci c) 0 / w = y at *
  generalize smN (w * h) _ = u
  congr 1
  by_cases q : w % 2 = 0
  · rw [if_pos q, if_pos q]; omega
  · rw [if_neg q, if_neg q]; omega

/-- The row of moves, checked by the document. -/
theorem way_loop {c : List Nat} {g : Nat} {l : List Int} (k : Way w h c g l) : Brd w h c g → ∀ (pre : List Int) (r2 : List Int × Int), r2.1 = pre ++ l → r2.1.length ≤ 1000 →
    loop (gameroomlaw_SlideHomes_L3 r2) ((w : Int), (h : Int), ci c, (pre.length : Int)) = some (.go ((w : Int), (h : Int), ci (homeN (w * h)))) := by
  induction k with
  | home e =>
    intro _ pre r2 h1 _
    refine loop_done ?_
    simp only [gameroomlaw_SlideHomes_L3]
    rw [h1, List.append_nil, if_neg (by simp), e]
  | @step c g a d l hd k _ ih =>
    intro b pre r2 h1 h2
    have hlen : r2.1.length = pre.length + (l.length + 1) := by rw [h1]; simp
    have := ih (b.move s hd k) (pre ++ [(d : Int)]) r2 (by rw [h1, List.append_assoc]; rfl) h2
    rw [List.length_append] at this
    refine loop_next' ?_ this
    simp only [gameroomlaw_SlideHomes_L3]
    rw [if_pos (decide_eq_true (by omega))]
    unfold gameroomlaw_SlideHomes_J13
    have hg : geti r2.1 (pre.length : Int) = (d : Int) := by
      rw [h1]
      exact geti_some (by simp)
    rw [asrt_pos (by omega), hg, mv_doc s b hd, k, Option.bind_some]
    dsimp only
    unfold gameroomlaw_SlideHomes_J15
    rw [if_neg (by simp)]
    unfold gameroomlaw_SlideHomes_J16 gameroomlaw_SlideHomes_J14
    rw [w64_of (by omega)]; rfl

variable {F : List Ent} (D : Done w h F) (hb : bfs w h 400 (S0 (w * h)) 0 = F) (hF : ∀ e ∈ F, e.2.2.1 ≤ 400)
include D hb hF

theorem home_in {c : List Nat} (hc : c.length = w * h) (ho : Ord (ci c)) : ∃ r2, slide_Home_m w h (ci c) = some r2 ∧ gameroomlaw_SlideHomes_J7 w h (ci c) r2 = some true := by
  have hw := s.w
  have hh := s.h
  have n6 := s.n6
  have hD := D.len
  have hcl : (ci c).length = w * h := by rw [ci_length, hc]
  have hmay : mayB w h (ci c) = true := by
    unfold mayB okS
    have e1 : w64 ((w : Int) * h) = ((w * h : Nat) : Int) := by rw [← Int.natCast_mul, w64_nat (by omega)]
    simp only [Bool.and_eq_true, decide_eq_true_eq, beq_iff_eq]
    exact ⟨⟨⟨⟨by omega, by omega⟩, by omega, by omega⟩, by rw [e1, hcl]⟩, ho⟩
  have hs : ∀ (i : Nat) e, F[i]? = some e → gameroomref_SameGrid_m ((getd zP32 (gAll w h F) (i : Int)).1) ((getd zP32 (gAll w h F) (i : Int)).2.1) ((getd zP32 (gAll w h F) (i : Int)).2.2) w h (ci c) = some (eqn e.1 c) := fun i e he => by
    have be := (el_ok (D.el e (mem_at he))).1
    rw [gAll_at he, sameGrid_eq _ _ _ _ _ (by rw [ci_length, be.len]; omega)]
    congr 1
    rw [Bool.eq_iff_iff, decide_eq_true_eq, eqn_iff]
    constructor
    · intro q
      injection q with _ q
      injection q with _ q
      exact ci_inj q
    · intro q; rw [q]
  unfold slide_Home_m
  rw [may_p (by omega), Option.bind_some, hmay, if_neg (by decide), if_neg (by simp; omega), par_eq s hc ho, Option.bind_some]
  by_cases q : has F c = true
  · obtain ⟨e0, he0, hee⟩ := has_iff.1 q
    subst hee
    obtain ⟨b0, -, hp0, hpos⟩ := el_ok (D.el e0 he0)
    rw [gapN_eq, hpos, hp0, if_neg (by decide)]
    obtain ⟨l, hl, hway, hJ⟩ := home_pp s D hb he0 hF
    refine ⟨(l, 0), hJ, ?_⟩
    have hf := hF e0 he0
    unfold gameroomlaw_SlideHomes_J7
    rw [far_r s D hb hF, Option.bind_some]
    have key := search_loop (step := gameroomlaw_SlideHomes_L2 w h (ci e0.1) (l, 0) (gAll w h F, gFar F)) (l := F) (fun e => eqn e.1 e0.1) (fun _ => .ret true) (.go ()) (fun i e he hp => by
        have hi := (List.getElem?_eq_some_iff.1 he).1
        have e1 : e = e0 := inj_of_nodup D.nm e (mem_at he) e0 he0 (by rw [eqn_iff.1 hp])
        simp only [gameroomlaw_SlideHomes_L2]
        rw [if_pos (decide_eq_true (by rw [gAll_length]; omega))]
        unfold gameroomlaw_SlideHomes_J9
        rw [asrt_pos (by rw [gAll_length]; omega), hs i e he, Option.bind_some, hp, if_neg (by decide)]
        unfold gameroomlaw_SlideHomes_J11
        rw [grid_p (by omega), Option.bind_some]
        dsimp only
        have hx := way_loop s hway b0 [] (l, 0) rfl (by dsimp only; omega)
        have hx2 : loop (gameroomlaw_SlideHomes_L3 (l, 0)) ((w : Int), (h : Int), ci e0.1, 0) = some (.go ((w : Int), (h : Int), ci (homeN (w * h)))) := hx
        rw [hx2, Option.bind_some]
        simp only [gameroomlaw_SlideHomes_K3]
        unfold gameroomlaw_SlideHomes_J12
        dsimp only
        have hcnd : (((0 : Int) == 0) && ((l.length : Int) == geti (gFar F) (i : Int))) = true := by
          rw [gFar_at he, e1, hl]; simp
        rw [asrt_pos (fun _ => by rw [gFar_length]; omega), hcnd, if_pos rfl, home_r s.w s.h (by omega), Option.bind_some, if_pos rfl]
        dsimp only
        rw [homeB_eq, sameGrid_eq _ _ _ _ _ (by rw [ci_length, homeN_length]; omega), Option.bind_some]
        unfold gameroomlaw_SlideHomes_J17
        simp) (fun i e he hp => by
        have hi := (List.getElem?_eq_some_iff.1 he).1
        simp only [gameroomlaw_SlideHomes_L2]
        rw [if_pos (decide_eq_true (by rw [gAll_length]; omega))]
        unfold gameroomlaw_SlideHomes_J9
        rw [asrt_pos (by rw [gAll_length]; omega), hs i e he, Option.bind_some, hp, if_pos (by decide)]
        unfold gameroomlaw_SlideHomes_J10
        rw [w64_of (by omega)]) (by
        simp only [gameroomlaw_SlideHomes_L2]
        rw [if_neg (by rw [gAll_length]; simp)])
    have hfi : ∃ i, F.findIdx? (fun e => eqn e.1 e0.1) = some i := by
      cases hq : F.findIdx? (fun e => eqn e.1 e0.1) with
      | none =>
        rw [List.findIdx?_eq_none_iff] at hq
        have := hq e0 he0
        rw [eqn_iff.2 rfl] at this; cases this
      | some i => exact ⟨i, rfl⟩
    obtain ⟨i, hi⟩ := hfi
    rw [hi] at key
    rw [key, Option.bind_some]; rfl
  · have q2 : has F c = false := by simpa using q
    have hnd : c.Nodup := by
      have := ho.nodup
      exact (List.pairwise_map.1 this).imp (fun h e => h (by rw [e]))
    have hp : parN w h c (gapN c) ≠ 0 := fun z => by
      have := D.pa c hnd hc (fun x hx => by
        have := (ho.bd (ci_mem.2 hx)).2
        rw [hcl] at this; omega) z
      rw [q2] at this; cases this
    rw [if_pos (by simp; exact hp)]
    refine ⟨_, rfl, ?_⟩
    unfold gameroomlaw_SlideHomes_J7
    rw [far_r s D hb hF, Option.bind_some]
    have key := search_loop (step := gameroomlaw_SlideHomes_L2 w h (ci c) (([] : List Int), (10 : Int)) (gAll w h F, gFar F)) (l := F) (fun _ => false) (fun _ => .ret true) (.go ()) (fun i e he hp => by cases hp) (fun i e he _ => by
        have hi := (List.getElem?_eq_some_iff.1 he).1
        have hp : eqn e.1 c = false := by
          rw [← Bool.not_eq_true, eqn_iff]
          intro z
          exact q (has_iff.2 ⟨e, mem_at he, z⟩)
        simp only [gameroomlaw_SlideHomes_L2]
        rw [if_pos (decide_eq_true (by rw [gAll_length]; omega))]
        unfold gameroomlaw_SlideHomes_J9
        rw [asrt_pos (by rw [gAll_length]; omega), hs i e he, Option.bind_some, hp, if_pos (by decide)]
        unfold gameroomlaw_SlideHomes_J10
        rw [w64_of (by omega)]) (by
        simp only [gameroomlaw_SlideHomes_L2]
        rw [if_neg (by rw [gAll_length]; simp)])
    have hi : F.findIdx? (fun _ => false) = none := by
      rw [List.findIdx?_eq_none_iff]; simp
    rw [hi] at key
    rw [key, Option.bind_some]; rfl

omit s hb hF in
theorem many_p (st : Nat) : loop (gameroomlaw_SlideHomes_L1 (st : Int) (gAll w h F, gFar F)) (0, 0) = some ((cntF F st : Nat) : Int) := by
  have hD := D.len
  have hle : ∀ k, cntF (F.take k) st ≤ 390 := fun k => by
    have : cntF (F.take k) st ≤ (F.take k).length := List.countP_le_length
    rw [List.length_take] at this
    omega
  refine loop_from (step := gameroomlaw_SlideHomes_L1 (st : Int) (gAll w h F, gFar F)) (fun k => (((cntF (F.take k) st : Nat) : Int), (k : Int))) F.length rfl (fun i hi => ?_) ?_
  · obtain ⟨e, he⟩ : ∃ e, F[i]? = some e := ⟨_, List.getElem?_eq_getElem hi⟩
    have h1 := hle i
    have hsucc : cntF (F.take (i + 1)) st = cntF (F.take i) st + if e.2.2.1 = st then 1 else 0 := by
      rw [List.take_add_one, he, cntF_app]
      congr 1
      unfold cntF
      simp [List.countP_cons]
    simp only [gameroomlaw_SlideHomes_L1]
    rw [if_pos (decide_eq_true (by rw [gFar_length]; omega))]
    unfold gameroomlaw_SlideHomes_J4
    rw [asrt_pos (by rw [gFar_length]; omega), gFar_at he, hsucc]
    unfold gameroomlaw_SlideHomes_J5
    by_cases q : e.2.2.1 = st
    · rw [if_pos (by simp [q]), if_pos q, w64_of (by omega), w64_of (by omega)]; rfl
    · rw [if_neg (by simp; omega), if_neg q, w64_of (by omega)]; rfl
  · simp only [gameroomlaw_SlideHomes_L1]
    rw [if_neg (by rw [gFar_length]; simp), List.take_length]
end

theorem home_law (g1 g2 : Int) (g3 : List Int) (hl : g3.length ≤ 17592186043904) : ∃ r2, slide_Home_m g1 g2 g3 = some r2 ∧ gameroomlaw_SlideHomes_J2 g1 g2 g3 r2 = some true := by
  have hj : ∀ r2, gameroomlaw_SlideHomes_J2 g1 g2 g3 r2 = if (!(mayB g1 g2 g3)) then (some ((r2.2 == 12) && ((r2.1.length : Int) == 0))) else gameroomlaw_SlideHomes_J6 g1 g2 g3 r2 := fun r2 => by
    unfold gameroomlaw_SlideHomes_J2
    rw [may_r hl, Option.bind_some]
  simp only [hj]
  clear hj
  by_cases q : mayB g1 g2 g3 = true
  · simp only [q, Bool.not_true, Bool.false_eq_true, if_false]
    obtain ⟨a, b, rfl, rfl, ha, hb, hc, hN, ho⟩ := may_sz q
    unfold gameroomlaw_SlideHomes_J6
    by_cases h6 : 6 < g3.length
    · refine ⟨([], 2), ?_, ?_⟩
      · unfold slide_Home_m
        rw [may_p hl, Option.bind_some, q, if_neg (by decide), if_pos (decide_eq_true (by omega))]
      · rw [if_pos (decide_eq_true (by omega))]; rfl
    · simp only [show ¬ (decide ((6 : Int) < (g3.length : Int)) = true) by simp; omega, if_false]
      have s : Shp a b := by
        have h7 : a * b ≤ 6 := by omega
        obtain ⟨ha1, ha2⟩ := ha
        obtain ⟨hb1, hb2⟩ := hb
        obtain rfl | rfl | rfl | rfl : a = 2 ∨ a = 3 ∨ a = 4 ∨ a = 5 := by omega
        · unfold Shp; omega
        · unfold Shp; omega
        · omega
        · omega
      obtain ⟨F, hbF, D, hF⟩ := fin s
      obtain ⟨c, rfl⟩ := ord_ci ho
      rw [ci_length] at hc
      exact home_in s D hbF hF hc ho
  · have q2 : mayB g1 g2 g3 = false := by simpa using q
    refine ⟨([], 12), ?_, ?_⟩
    · unfold slide_Home_m
      rw [may_p hl, Option.bind_some, q2, if_pos (by decide)]
    · rw [q2]; rfl

theorem true_SlideHomes (g1 g2 : Int) (c : List Int) (w h st : Int) (_h1 : inI g1) (_h2 : inI g2) (hc : c.length ≤ 17592186043904) (_hy : ∀ y ∈ c, inI y) (_h3 : inI w) (_h4 : inI h) (_h5 : inI st) : gameroomlaw_SlideHomes_m g1 g2 c w h st = some true := by
  obtain ⟨r2, e2, hJ⟩ := home_law g1 g2 c hc
  unfold gameroomlaw_SlideHomes_m
  rw [grid_p hc, Option.bind_some]
  dsimp only
  rw [e2, Option.bind_some]
  unfold slide_Count_m slide_far_m
  by_cases hw : w < 2 ∨ 5 < w
  · have f1 : (decide (w < 2) || decide ((5 : Int) < w)) = true := by simpa using hw
    rw [Option.bind_some, f1, if_neg (by decide), Option.bind_some]
    simp only [Bool.true_or, if_true]
    rw [Option.bind_some]
    unfold gameroomlaw_SlideHomes_J1
    rw [if_pos (by decide), if_neg (by decide)]; exact hJ
  · have f1 : (decide (w < 2) || decide ((5 : Int) < w)) = false := by simp; omega
    rw [Option.bind_some, f1, if_pos (by decide), Option.bind_some]
    by_cases hh : h < 2 ∨ 5 < h
    · have f2 : (decide (h < 2) || decide ((5 : Int) < h)) = true := by simpa using hh
      rw [Bool.false_or, Bool.false_or, f2]
      simp only [Bool.true_or, if_true]
      rw [Option.bind_some]
      unfold gameroomlaw_SlideHomes_J1
      rw [if_pos (by decide), if_neg (by decide)]; exact hJ
    · have f2 : (decide (h < 2) || decide ((5 : Int) < h)) = false := by simp; omega
      rw [Bool.false_or, Bool.false_or, f2]
      obtain ⟨a, rfl⟩ : ∃ a : Nat, w = (a : Int) := ⟨w.toNat, by omega⟩
      obtain ⟨b, rfl⟩ : ∃ b : Nat, h = (b : Int) := ⟨h.toNat, by omega⟩
      have ha : 2 ≤ a ∧ a ≤ 5 := by omega
      have hb : 2 ≤ b ∧ b ≤ 5 := by omega
      have hN : a * b ≤ 5 * 5 := Nat.mul_le_mul ha.2 hb.2
      have e1 : w64 ((a : Int) * b) = ((a * b : Nat) : Int) := by rw [← Int.natCast_mul, w64_nat (by omega)]
      rw [e1]
      by_cases h6 : 6 < a * b
      · have f3 : decide ((6 : Int) < ((a * b : Nat) : Int)) = true := decide_eq_true (by omega)
        rw [f3]
        simp only [Bool.or_true, if_true]
        rw [Option.bind_some]
        unfold gameroomlaw_SlideHomes_J1
        rw [if_pos (by decide), if_neg (by decide)]; exact hJ
      · have f3 : decide ((6 : Int) < ((a * b : Nat) : Int)) = false := decide_eq_false (by omega)
        rw [f3]
        simp only [Bool.or_false, Bool.false_eq_true, if_false]
        by_cases hst : st < 0 ∨ 40 < st
        · have f5 : (decide (st < 0) || decide ((40 : Int) < st)) = true := by simpa using hst
          rw [f5, if_pos rfl, Option.bind_some, if_pos rfl]
          unfold gameroomlaw_SlideHomes_J1
          rw [if_pos (by decide), if_neg (by decide)]; exact hJ
        · have f5 : (decide (st < 0) || decide ((40 : Int) < st)) = false := by simp; omega
          rw [f5, if_neg (by decide)]
          obtain ⟨k, rfl⟩ : ∃ k : Nat, st = (k : Int) := ⟨st.toNat, by omega⟩
          have s : Shp a b := by
            have h7 : a * b ≤ 6 := by omega
            obtain ⟨ha1, ha2⟩ := ha
            obtain ⟨hb1, hb2⟩ := hb
            obtain rfl | rfl | rfl | rfl : a = 2 ∨ a = 3 ∨ a = 4 ∨ a = 5 := by omega
            · unfold Shp; omega
            · unfold Shp; omega
            · omega
            · omega
          obtain ⟨F, hbF, D, hF⟩ := fin s
          have hcount := count_p s D hbF (st := k) (by omega)
          unfold slide_Count_m slide_far_m at hcount
          rw [Option.bind_some, f1, if_pos (by decide), Option.bind_some, f2, e1, f3, if_neg (by decide), f5, if_neg (by decide)] at hcount
          rw [hcount, Option.bind_some, if_neg (by decide)]
          unfold gameroomlaw_SlideHomes_J1
          rw [if_neg (by decide), far_r s D hbF hF, Option.bind_some, many_p D k, Option.bind_some]
          simp only [gameroomlaw_SlideHomes_K1]
          unfold gameroomlaw_SlideHomes_J3
          rw [if_neg (by simp)]
          exact hJ
end Go.Proofs.Ytkpkkdpfcbnfdaa
