/-
  Pictures: the law.
-/
import Derived.Test.YtdjjomghggplpaaNPg
namespace Go.Proofs.Ytdjjomghggplpaa
open Go Go.GL

theorem rep_p (s : Int) {p : Nat} (hp : 1 ≤ p ∧ p ≤ 6) : slices_Repeat_m [s] p = some (List.replicate p s) := by
  unfold slices_Repeat_m slices_Repeat_J1 slices_Repeat_J2
  obtain rfl | rfl | rfl | rfl | rfl | rfl : p = 1 ∨ p = 2 ∨ p = 3 ∨ p = 4 ∨ p = 5 ∨ p = 6 := by omega
  · rw [if_neg (by decide), show bits_Mul_m (IntKind.wrap .u64 (([s].length : Nat) : Int)) (IntKind.wrap .u64 ((1 : Nat) : Int)) = some (0, 1) by kernel_rfl, Option.bind_some, if_neg (by decide), asrt_pos (by decide), loop_of (n := 6) (r := [s]) (by kernel_rfl)]; rfl
  · rw [if_neg (by decide), show bits_Mul_m (IntKind.wrap .u64 (([s].length : Nat) : Int)) (IntKind.wrap .u64 ((2 : Nat) : Int)) = some (0, 2) by kernel_rfl, Option.bind_some, if_neg (by decide), asrt_pos (by decide), loop_of (n := 6) (r := [s, s]) (by kernel_rfl)]; rfl
  · rw [if_neg (by decide), show bits_Mul_m (IntKind.wrap .u64 (([s].length : Nat) : Int)) (IntKind.wrap .u64 ((3 : Nat) : Int)) = some (0, 3) by kernel_rfl, Option.bind_some, if_neg (by decide), asrt_pos (by decide), loop_of (n := 6) (r := [s, s, s]) (by kernel_rfl)]; rfl
  · rw [if_neg (by decide), show bits_Mul_m (IntKind.wrap .u64 (([s].length : Nat) : Int)) (IntKind.wrap .u64 ((4 : Nat) : Int)) = some (0, 4) by kernel_rfl, Option.bind_some, if_neg (by decide), asrt_pos (by decide), loop_of (n := 6) (r := [s, s, s, s]) (by kernel_rfl)]; rfl
  · rw [if_neg (by decide), show bits_Mul_m (IntKind.wrap .u64 (([s].length : Nat) : Int)) (IntKind.wrap .u64 ((5 : Nat) : Int)) = some (0, 5) by kernel_rfl, Option.bind_some, if_neg (by decide), asrt_pos (by decide), loop_of (n := 6) (r := [s, s, s, s, s]) (by kernel_rfl)]; rfl
  · rw [if_neg (by decide), show bits_Mul_m (IntKind.wrap .u64 (([s].length : Nat) : Int)) (IntKind.wrap .u64 ((6 : Nat) : Int)) = some (0, 6) by kernel_rfl, Option.bind_some, if_neg (by decide), asrt_pos (by decide), loop_of (n := 6) (r := [s, s, s, s, s, s]) (by kernel_rfl)]; rfl

theorem get_geti2 {l : List (List Int)} {i : Nat} (hi : i < l.length) : l[i]? = some (geti2 l (i : Int)) := by
  rw [geti2_nat, List.getD_eq_getElem?_getD, List.getElem?_eq_getElem hi]; rfl
theorem take_next {l : List (List Int)} {i : Nat} (hi : i < l.length) : l.take i ++ [geti2 l (i : Int)] = l.take (i + 1) := by
  rw [List.take_add_one, get_geti2 hi]; rfl
theorem lcopied_p {l : List (List Int)} (hl : l.length ≤ 5864062014634) (hb : ∀ r ∈ l, r.length ≤ 17592186043904) : gameroomlaw_copied_m l = some l := by
  unfold gameroomlaw_copied_m
  have h : loop (gameroomlaw_copied_L1 l) (([] : List (List Int)), 0) = some l := by
    refine loop_from (f := fun i => (l.take i, (i : Int))) l.length (by simp) (fun i hi => ?_) ?_
    · have hbl := hb _ (List.mem_of_getElem? (get_geti2 hi))
      simp only [gameroomlaw_copied_L1]
      rw [if_pos (decide_eq_true (by omega))]
      unfold gameroomlaw_copied_J2 gameroomlaw_ints_m gameroomlaw_copied_J3
      rw [asrt_pos (by omega), asrt_pos (by unfold bigN; omega), Option.bind_some, List.length_take, asrt_pos (by unfold bigR; omega), w64_of (by omega), List.nil_append, take_next hi]; rfl
    · simp only [gameroomlaw_copied_L1]
      rw [if_neg (by simp), List.take_length]
  rw [h]; rfl

theorem contF_p {cl : List Int} (hc : cl.length ≤ 17592186043904) : slices_ContainsFunc_m cl = some (cl.any badC) := by
  unfold slices_ContainsFunc_m slices_IndexFunc_m
  have key := search_loop (step := slices_IndexFunc_L1 cl) (l := cl) badC (fun i => Fl.ret (i : Int)) (Fl.go ()) (by
    intro i x hx hp
    have hb := idx_bd hx
    simp only [slices_IndexFunc_L1, slices_IndexFunc_J2]
    unfold badC at hp
    rw [if_pos (decide_eq_true hb.2), asrt_pos hb, geti_some hx]
    unfold nono_strange_m
    rw [hp]; rfl) (by
    intro i x hx hp
    have hb := idx_bd hx
    simp only [slices_IndexFunc_L1, slices_IndexFunc_J2, slices_IndexFunc_J3]
    unfold badC at hp
    rw [if_pos (decide_eq_true hb.2), asrt_pos hb, geti_some hx]
    unfold nono_strange_m
    rw [hp, w64_of (by omega)]; rfl) (by
    simp only [slices_IndexFunc_L1]
    rw [if_neg (by simp)])
  rw [key, Option.bind_some]
  cases hf : cl.findIdx? badC with
  | none =>
    have : cl.any badC = false := by
      rw [List.any_eq_false]
      intro x hx; rw [List.findIdx?_eq_none_iff.1 hf x hx]; decide
    rw [this]; rfl
  | some i =>
    have : cl.any badC = true := by
      obtain ⟨hi, hp, _⟩ := List.findIdx?_eq_some_iff_getElem.1 hf
      rw [List.any_eq_true]
      exact ⟨cl[i], List.getElem_mem hi, hp⟩
    rw [this]
    show some (decide ((0 : Int) ≤ (i : Int))) = _
    rw [decide_eq_true (by omega)]

def badP (m : List (List Int)) : Bool := m.any (fun cl => cl.any badC)

/-- A loop over clues that stops at the first bad one. -/
theorem clues_p {R : Type} {step : Int → Option (St Int R)} {m : List (List Int)} (hit miss : R) (hm : m.length ≤ 1000000)
    (h1 : ∀ i : Nat, i < m.length → (geti2 m (i : Int)).any badC = true → step (i : Int) = some (.done hit))
    (h2 : ∀ i : Nat, i < m.length → (geti2 m (i : Int)).any badC = false → step (i : Int) = some (.next ((i + 1 : Nat) : Int)))
    (h3 : step (m.length : Int) = some (.done miss)) : loop step 0 = some (if badP m = true then hit else miss) := by
  have := hm
  obtain ⟨r, e, hr⟩ := count_loop (step := step) (fun (_ : Unit) (i : Nat) => (i : Int)) (fun i _ => ∀ j : Nat, j < i → (geti2 m (j : Int)).any badC = false) (fun r => r = if badP m = true then hit else miss) m.length () (fun j hj => by omega) (by
    intro i _ hi hI
    cases hb : (geti2 m (i : Int)).any badC with
    | true =>
      right
      refine ⟨_, h1 i hi hb, ?_⟩
      have : badP m = true := List.any_eq_true.2 ⟨_, List.mem_of_getElem? (get_geti2 hi), hb⟩
      rw [if_pos this]
    | false =>
      left
      refine ⟨(), h2 i hi hb, fun j hj => ?_⟩
      by_cases e : j = i
      · rw [e]; exact hb
      · exact hI j (by omega)) (by
    intro _ hI
    refine ⟨_, h3, ?_⟩
    have : badP m = false := List.any_eq_false.2 fun cl hcl => by
      obtain ⟨j, hj⟩ := List.mem_iff_getElem?.1 hcl
      have hlt := (List.getElem?_eq_some_iff.1 hj).1
      rw [get_geti2 hlt] at hj
      rw [← Option.some.inj hj, hI j hlt]; simp
    rw [if_neg (by rw [this]; decide)])
  have e' : loop step 0 = some r := e
  rw [e', hr]

theorem lens {m : List (List Int)} (hb : ∀ r ∈ m, r.length ≤ 17592186043904 ∧ ∀ x ∈ r, inI x) {i : Nat} (hi : i < m.length) : (geti2 m (i : Int)).length ≤ 17592186043904 := (hb _ (List.mem_of_getElem? (get_geti2 hi))).1

theorem PictureMay_p {a b : List (List Int)} (ha : a.length ≤ 5864062014634) (ha' : ∀ r ∈ a, r.length ≤ 17592186043904 ∧ ∀ x ∈ r, inI x) (hb : b.length ≤ 5864062014634) (hb' : ∀ r ∈ b, r.length ≤ 17592186043904 ∧ ∀ x ∈ r, inI x) :
    gameroomref_PictureMay_m a b = some (if (1 ≤ a.length ∧ a.length ≤ 6) ∧ (1 ≤ b.length ∧ b.length ≤ 6) then (if badP a = true ∨ badP b = true then 4 else 0) else 2) := by
  unfold gameroomref_PictureMay_m gameroomref_within_m
  rw [Option.bind_some]
  by_cases q1 : 1 ≤ a.length ∧ a.length ≤ 6
  · have e1 : (decide ((1 : Int) ≤ (a.length : Int)) && decide ((a.length : Int) ≤ 6)) = true := by
      rw [Bool.and_eq_true, decide_eq_true_eq, decide_eq_true_eq]; omega
    rw [e1, if_pos (by decide), Option.bind_some]
    by_cases q2 : 1 ≤ b.length ∧ b.length ≤ 6
    · have e2 : (decide ((1 : Int) ≤ (b.length : Int)) && decide ((b.length : Int) ≤ 6)) = true := by
        rw [Bool.and_eq_true, decide_eq_true_eq, decide_eq_true_eq]; omega
      rw [e2, if_neg (by decide), if_pos ⟨q1, q2⟩]
      unfold gameroomref_PictureMay_J1
      have k1 := clues_p (step := gameroomref_PictureMay_L1 a) (m := a) (Fl.ret 4) (Fl.go ()) (by omega) (by
        intro i hi hbad
        have e : gameroomref_PictureMay_L1 a (i : Int) = gameroomref_PictureMay_J3 a (i : Int) := if_pos (decide_eq_true (by omega))
        rw [e]
        unfold gameroomref_PictureMay_J3
        rw [asrt_pos (by omega), ClueMay_p (lens ha' hi), Option.bind_some, hbad]; rfl) (by
        intro i hi hbad
        have e : gameroomref_PictureMay_L1 a (i : Int) = gameroomref_PictureMay_J3 a (i : Int) := if_pos (decide_eq_true (by omega))
        rw [e]
        unfold gameroomref_PictureMay_J3 gameroomref_PictureMay_J4
        rw [asrt_pos (by omega), ClueMay_p (lens ha' hi), Option.bind_some, hbad, w64_of (by omega)]; rfl) (by
        simp only [gameroomref_PictureMay_L1]
        rw [if_neg (by simp)])
      rw [k1, Option.bind_some]
      cases hba : badP a with
      | true => rw [if_pos rfl, if_pos (.inl rfl)]; rfl
      | false =>
        rw [if_neg (by decide)]
        simp only [gameroomref_PictureMay_K1]
        unfold gameroomref_PictureMay_J2
        have k2 := clues_p (step := gameroomref_PictureMay_L2 b) (m := b) (Fl.ret 4) (Fl.go ()) (by omega) (by
          intro i hi hbad
          have e : gameroomref_PictureMay_L2 b (i : Int) = gameroomref_PictureMay_J6 b (i : Int) := if_pos (decide_eq_true (by omega))
          rw [e]
          unfold gameroomref_PictureMay_J6
          rw [asrt_pos (by omega), ClueMay_p (lens hb' hi), Option.bind_some, hbad]; rfl) (by
          intro i hi hbad
          have e : gameroomref_PictureMay_L2 b (i : Int) = gameroomref_PictureMay_J6 b (i : Int) := if_pos (decide_eq_true (by omega))
          rw [e]
          unfold gameroomref_PictureMay_J6 gameroomref_PictureMay_J7
          rw [asrt_pos (by omega), ClueMay_p (lens hb' hi), Option.bind_some, hbad, w64_of (by omega)]; rfl) (by
          simp only [gameroomref_PictureMay_L2]
          rw [if_neg (by simp)])
        rw [k2, Option.bind_some]
        cases hbb : badP b with
        | true => rw [if_pos rfl, if_pos (.inr rfl)]; rfl
        | false => rw [if_neg (by decide), if_neg (by simp)]; rfl
    · have e2 : (decide ((1 : Int) ≤ (b.length : Int)) && decide ((b.length : Int) ≤ 6)) = false := by
        rw [Bool.and_eq_false_iff, decide_eq_false_iff_not, decide_eq_false_iff_not]; omega
      rw [e2, if_pos (by decide), if_neg (fun z => q2 z.2)]
  · have e1 : (decide ((1 : Int) ≤ (a.length : Int)) && decide ((a.length : Int) ≤ 6)) = false := by
      rw [Bool.and_eq_false_iff, decide_eq_false_iff_not, decide_eq_false_iff_not]; omega
    rw [e1, if_neg (by decide), Option.bind_some, if_pos (by decide), if_neg (fun z => q1 z.1)]

theorem concatR_p {a b : List (List Int)} (ha : a.length ≤ 1000) (hb : b.length ≤ 1000) : slices_Concat_m a b = some (a ++ b) := by
  unfold slices_Concat_m slices_Concat_J2 slices_Concat_J3 slices_Concat_J4 slices_Concat_J5 slices_Concat_J1 slices_Grow_m slices_Concat_J8 slices_Concat_J10
  rw [asrt_pos (by omega), w64_of (x := 0 + (a.length : Int)) (by omega), if_neg (by rw [decide_eq_true_eq]; omega), asrt_pos (by omega), w64_of (by omega), if_neg (by rw [decide_eq_true_eq]; omega), asrt_pos (by unfold bigR; omega), Option.bind_some, asrt_pos (by omega), List.nil_append, asrt_pos (by unfold bigR; simp; omega), asrt_pos (by omega), asrt_pos (by unfold bigR; omega)]

theorem badP_app (a b : List (List Int)) : badP (a ++ b) = (badP a || badP b) := by unfold badP; rw [List.any_append]

theorem newPicture_p {a b : List (List Int)} (ha' : ∀ r ∈ a, r.length ≤ 17592186043904 ∧ ∀ x ∈ r, inI x) (hb' : ∀ r ∈ b, r.length ≤ 17592186043904 ∧ ∀ x ∈ r, inI x) :
    nono_newPicture_m a b = some (if (1 ≤ a.length ∧ a.length ≤ 6) ∧ (1 ≤ b.length ∧ b.length ≤ 6) then (if badP a = true ∨ badP b = true then .go 4 else .ret (cellsOf a.length b.length (fun _ _ => -1))) else .go 2) := by
  unfold nono_newPicture_m nono_newPicture_J2 nono_newPicture_J3 nono_newPicture_J4 nono_newPicture_J5
  rw [asrt_pos (by omega)]
  by_cases q1 : 1 ≤ a.length ∧ a.length ≤ 6
  · rw [if_neg (by rw [Bool.or_eq_true, decide_eq_true_eq, decide_eq_true_eq]; omega), asrt_pos (by omega)]
    by_cases q2 : 1 ≤ b.length ∧ b.length ≤ 6
    · rw [if_neg (by rw [Bool.or_eq_true, decide_eq_true_eq, decide_eq_true_eq]; omega), if_pos ⟨q1, q2⟩]
      unfold nono_newPicture_J1
      rw [concatR_p (by omega) (by omega), Option.bind_some]
      have hab : ∀ r ∈ a ++ b, r.length ≤ 17592186043904 ∧ ∀ x ∈ r, inI x := fun r hr => by
        rcases List.mem_append.1 hr with q | q
        · exact ha' r q
        · exact hb' r q
      have k1 := clues_p (step := nono_newPicture_L1 (a ++ b)) (m := a ++ b) (Fl.ret (.go 4)) (Fl.go ()) (by simp; omega) (by
        intro i hi hbad
        have e : nono_newPicture_L1 (a ++ b) (i : Int) = nono_newPicture_J8 (a ++ b) (i : Int) := if_pos (decide_eq_true (by omega))
        rw [e]
        unfold nono_newPicture_J8
        rw [asrt_pos (by omega), contF_p (lens hab hi), Option.bind_some, hbad, if_pos rfl]) (by
        intro i hi hbad
        have hlen : (a ++ b).length = a.length + b.length := List.length_append
        have e : nono_newPicture_L1 (a ++ b) (i : Int) = nono_newPicture_J8 (a ++ b) (i : Int) := if_pos (decide_eq_true (by omega))
        rw [e]
        unfold nono_newPicture_J8 nono_newPicture_J9
        rw [asrt_pos (by omega), contF_p (lens hab hi), Option.bind_some, hbad, if_neg (by decide), w64_of (by omega)]; rfl) (by
        simp only [nono_newPicture_L1]
        rw [if_neg (by simp)])
      rw [k1, Option.bind_some, badP_app]
      by_cases hbad : badP a = true ∨ badP b = true
      · rw [if_pos (by rw [Bool.or_eq_true]; exact hbad), if_pos hbad]; rfl
      · rw [if_neg (by rw [Bool.or_eq_true]; exact hbad), if_neg hbad]
        simp only [nono_newPicture_K1]
        unfold nono_newPicture_J7
        have k2 := loop_from (step := nono_newPicture_L2 a b) (s0 := (([] : List (List Int)), 0)) (r := cellsOf a.length b.length (fun _ _ => -1)) (fun i => (tab i (rowL b.length (fun _ _ => -1)), (i : Int))) a.length rfl (by
          intro i hi
          have e1 : ∀ l : List (List Int), nono_newPicture_L2 a b (l, (i : Int)) = nono_newPicture_J11 b l (i : Int) := fun l => if_pos (decide_eq_true (by omega))
          rw [e1]
          unfold nono_newPicture_J11 nono_newPicture_J12
          rw [rep_p (-1) q2, Option.bind_some, asrt_pos (by rw [tab_length]; unfold bigR; omega), w64_of (by omega), mr_rep, show mr b.length (fun _ => (-1 : Int)) = rowL b.length (fun _ _ => -1) i from rfl, tab_snoc]
          rfl) (by
          simp only [nono_newPicture_L2]
          rw [if_neg (by simp)]; rfl)
        rw [k2]; rfl
    · rw [if_pos (by rw [Bool.or_eq_true, decide_eq_true_eq, decide_eq_true_eq]; omega), if_neg (fun z => q2 z.2)]
  · rw [if_pos (by rw [Bool.or_eq_true, decide_eq_true_eq, decide_eq_true_eq]; omega), if_neg (fun z => q1 z.1)]

theorem true_NonoPictures (a b : List (List Int)) (most : Int) (ha : a.length ≤ 5864062014634) (ha' : ∀ r ∈ a, r.length ≤ 17592186043904 ∧ ∀ x ∈ r, inI x) (hb : b.length ≤ 5864062014634) (hb' : ∀ r ∈ b, r.length ≤ 17592186043904 ∧ ∀ x ∈ r, inI x) (_hm : inI most) :
    gameroomlaw_NonoPictures_m a b most = some true := by
  unfold gameroomlaw_NonoPictures_m
  have hla := lcopied_p ha (fun r hr => (ha' r hr).1)
  have hlb := lcopied_p hb (fun r hr => (hb' r hr).1)
  unfold nono_Solve_m nono_Push_m
  simp only [hla, hlb, Option.bind_some, newPicture_p ha' hb', PictureMay_p ha ha' hb hb']
  by_cases q : (1 ≤ a.length ∧ a.length ≤ 6) ∧ (1 ≤ b.length ∧ b.length ≤ 6)
  · rw [if_pos q, if_pos q]
    by_cases hbad : badP a = true ∨ badP b = true
    · rw [if_pos hbad, if_pos hbad]
      rfl
    · rw [if_neg hbad, if_neg hbad]
      have hna : badP a = false := by
        cases h : badP a with
        | true => exact absurd (.inl h) hbad
        | false => rfl
      have hnb : badP b = false := by
        cases h : badP b with
        | true => exact absurd (.inr h) hbad
        | false => rfl
      have k : PicOk a b := ⟨q.1.1, q.1.2, q.2.1, q.2.2, fun y hy => badC_ok.1 (Bool.eq_false_iff.2 (List.any_eq_false.1 hna _ (List.mem_of_getElem? (get_geti2 hy)))), fun y hy => lens ha' hy, fun x hx => badC_ok.1 (Bool.eq_false_iff.2 (List.any_eq_false.1 hnb _ (List.mem_of_getElem? (get_geti2 hx)))), fun x hx => lens hb' hx⟩
      have hok : okG a.length b.length (fun _ _ => -1) := fun _ _ _ _ => .inl rfl
      obtain ⟨ok, p, c, hp, hps, _, hpq⟩ := push_p k hok
      obtain ⟨ok2, x, c2, hx, hxs, hxq⟩ := refPush_p k
      obtain ⟨hoo, hcc⟩ := hps.same hxs
      subst hoo
      simp only [Fl.elim2]
      rw [hp, Option.bind_some]
      -- behind both
      have tail : ∀ r3 : Int × List Int × Int, (most < 1 ∨ 1000 < most → r3 = (0, [], 3)) → ((1 ≤ most ∧ most ≤ 1000) → ∃ n : Nat, ∃ last : List Int, r3 = ((n : Int), if n = 1 ∧ most ≠ 1 then last else [], 0) ∧ n = min most.toNat (solN a.length b.length (RR a) (RR b) (fun _ _ => -1)) ∧ (0 < n → foundG a b (fun _ _ => -1) last)) → gameroomlaw_NonoPictures_J2 a b most r3 = some true := by
        intro r3 t1 t2
        unfold gameroomlaw_NonoPictures_J2
        by_cases z : most < 1 ∨ 1000 < most
        · rw [if_pos (by rw [Bool.or_eq_true, decide_eq_true_eq, decide_eq_true_eq]; omega), t1 z]
          rfl
        · rw [if_neg (by rw [Bool.or_eq_true, decide_eq_true_eq, decide_eq_true_eq]; omega)]
          obtain ⟨n, last, rfl, hn, hf⟩ := t2 (by omega)
          unfold gameroomlaw_NonoPictures_J3
          obtain ⟨M, rfl⟩ : ∃ M : Nat, most = (M : Int) := ⟨most.toNat, by omega⟩
          obtain ⟨n2, last2, hr, hn2, hf2⟩ := pict_p k (most := M) (by omega) (by omega)
          rw [Int.toNat_natCast] at hn
          have hnn : n2 = n := by rw [hn2, hn]
          subst hnn
          rw [hr, Option.bind_some]
          dsimp only
          by_cases z1 : n2 = 1 ∧ (M : Int) ≠ 1
          · have hl : last = last2 := by
              have f1 := hf (by omega)
              have f2 := hf2 (by omega)
              exact solN_uniq (by omega) f1.len f2.len f1.full f2.full f1.le f1.good f2.le f2.good
            subst hl
            rw [if_neg (by rw [Bool.or_eq_true, bne_iff_ne, beq_iff_eq]; omega), if_pos z1]
            unfold gameroomlaw_NonoPictures_J4
            dsimp only
            rw [if_pos (by simp), same_l _ (by
              have := (hf (by omega)).len
              have hd := (dims k).2
              omega), Option.bind_some]
            simp
          · rw [if_pos (by rw [Bool.or_eq_true, bne_iff_ne, beq_iff_eq]; omega), if_neg z1]
            unfold gameroomlaw_NonoPictures_J4
            dsimp only
            rw [if_pos (by simp), same_l _ (by simp), Option.bind_some]
            simp
      have hS : ∃ r3 : Int × List Int × Int, (if (decide (most < 1) || decide ((1000 : Int) < most)) = true then some ((0 : Int), ([] : List Int), (3 : Int)) else nono_Solve_J3 a b most (cellsOf a.length b.length fun _ _ => -1)) = some r3 ∧ gameroomlaw_NonoPictures_J2 a b most r3 = some true := by
        by_cases z : most < 1 ∨ 1000 < most
        · refine ⟨_, if_pos (by rw [Bool.or_eq_true, decide_eq_true_eq, decide_eq_true_eq]; exact z), tail _ (fun _ => rfl) (fun z2 => by omega)⟩
        · rw [if_neg (by rw [Bool.or_eq_true, decide_eq_true_eq, decide_eq_true_eq]; exact z)]
          obtain ⟨M, rfl⟩ : ∃ M : Nat, most = (M : Int) := ⟨most.toNat, by omega⟩
          obtain ⟨n, last, q3, hr, hn, hf⟩ := solve_p k (c := fun _ _ => -1) (most := M) hok (by omega) (by omega)
          unfold nono_Solve_J3
          rw [hr, Option.bind_some]
          unfold nono_Solve_J4
          dsimp only
          refine ⟨((n : Int), if n = 1 ∧ (M : Int) ≠ 1 then last else [], 0), ?_, tail _ (fun z2 => by omega) (fun _ => ⟨n, last, rfl, by rw [Int.toNat_natCast]; exact hn, hf⟩)⟩
          by_cases z1 : n = 1 ∧ (M : Int) ≠ 1
          · rw [if_neg (by rw [Bool.or_eq_true, bne_iff_ne, beq_iff_eq]; omega), if_pos z1]
          · rw [if_pos (by rw [Bool.or_eq_true, bne_iff_ne, beq_iff_eq]; omega), if_neg z1]
      obtain ⟨r3, hr3, ht⟩ := hS
      rw [hr3, Option.bind_some]
      unfold gameroomlaw_NonoPictures_J1
      cases ok with
      | false =>
        rw [if_pos (by simp), Option.bind_some, if_neg (by decide), hx, Option.bind_some]
        exact ht
      | true =>
        have hd := (dims k).2
        have hpe := hpq rfl
        subst hpe
        have hxe := hxq rfl
        subst hxe
        rw [if_neg (by simp)]
        unfold nono_Push_J2
        rw [concat_p k.h6 k.w6, Option.bind_some, Option.bind_some, if_neg (by decide), hx, Option.bind_some, flat_congr (hcc rfl)]
        dsimp only
        rw [if_pos (by decide), same_l _ (by rw [flatG_len]; omega), Option.bind_some]
        exact ht
  · rw [if_neg q, if_neg q]
    rfl
end Go.Proofs.Ytdjjomghggplpaa
