/-
  MagicTells: the document's product; the law.
-/
import Derived.Test.YtoickcchcjehdaaVMf
namespace Go.Proofs.Ytoickcchcjehdaa
open Go Go.GL

section
variable {a b : List Int} {n m : Nat} (hn : 1 ≤ n) (hm : 1 ≤ m) (hnm : n * m ≤ 12) (ha : n * n = a.length) (hb : m * m = b.length)
include hn hm hnm ha hb
theorem prod_d (sa : gameroomref_MagicSide_m a = some (n : Int)) (sb : gameroomref_MagicSide_m b = some (m : Int)) : gameroomref_MagicProduct_m a b = some ((List.range (n * m * n * m)).map fun j => vP a b m (iP n m j) (kP n m j)) := by
  obtain ⟨hn2, hm2⟩ := n12 hn hm hnm
  obtain ⟨ok, oq⟩ := okM_at hn hm hnm
  have na := nn_le hn hn2
  have nb := nn_le hm hm2
  have h4 := nm4 hn hm hnm
  have pa : 0 < n * n := Nat.mul_pos hn hn
  have pb : 0 < m * m := Nat.mul_pos hm hm
  have eN : n * n * (m * m) = n * m * n * m := by
    rw [Nat.mul_mul_mul_comm, ← Nat.mul_assoc]
  have hmn : n * m * n ≤ 144 := Nat.le_trans (Nat.mul_le_mul hnm hn2) (by omega)
  unfold gameroomref_MagicProduct_m
  rw [sa, Option.bind_some, sb, Option.bind_some, w64_mulN (a := n) (by omega), w64_mulN (a := n * m) (by omega), w64_mulN (a := n * m * n) (by omega), asrt_pos (by unfold bigN; omega), Int.toNat_natCast]
  generalize hl2 : mr (n * m * n * m) (fun t => vP a b m (t / (m * m)) (t % (m * m))) = l2
  have hres : spr (pP n m) l2 (n * m * n * m) (n * m * n * m) = (List.range (n * m * n * m)).map fun j => vP a b m (iP n m j) (kP n m j) := by
    rw [spr_img ok]
    unfold img
    rw [List.map_map]
    refine List.map_congr_left fun j hj => ?_
    have hj := List.mem_range.1 hj
    show geti l2 ((qP n m j : Nat) : Int) = _
    rw [← hl2, mr_geti (okPQ_at ok hj).2.2.1, (oq j hj).1, (oq j hj).2]
  have hlt : ∀ i k, i < n * n → k < m * m → i * (m * m) + k < n * m * n * m := fun i k hi hk => by
    have : (i + 1) * (m * m) ≤ n * n * (m * m) := Nat.mul_le_mul_right _ hi
    rw [Nat.add_mul, eN] at this
    omega
  have hdm : ∀ i k, k < m * m → (i * (m * m) + k) / (m * m) = i ∧ (i * (m * m) + k) % (m * m) = k := fun i k hk => by
    constructor
    · rw [Nat.mul_comm, Nat.mul_add_div pb, Nat.div_eq_of_lt hk]; rfl
    · rw [Nat.mul_comm, Nat.mul_add_mod, Nat.mod_eq_of_lt hk]
  rw [loop_from (s0 := (List.replicate (n * m * n * m) (0 : Int), (0 : Int))) (r := spr (pP n m) l2 (n * m * n * m) (n * m * n * m)) (fun i => (spr (pP n m) l2 (n * m * n * m) (i * (m * m)), (i : Int))) (n * n) (by rw [Nat.zero_mul]; rfl) (fun i hi => ?_) ?_, Option.bind_some]
  · rw [hres]
    rfl
  · unfold gameroomref_MagicProduct_L1
    dsimp only
    rw [if_neg (by rw [ha]; simp), eN]
  · unfold gameroomref_MagicProduct_L1 gameroomref_MagicProduct_J2
    dsimp only
    rw [if_pos (by rw [decide_eq_true_eq]; omega), loop_from (s0 := (spr (pP n m) l2 (n * m * n * m) (i * (m * m)), (0 : Int))) (r := spr (pP n m) l2 (n * m * n * m) (i * (m * m) + m * m)) (fun k => (spr (pP n m) l2 (n * m * n * m) (i * (m * m) + k), (k : Int))) (m * m) rfl (fun k hk => ?_) ?_, Option.bind_some]
    · unfold gameroomref_MagicProduct_K2 gameroomref_MagicProduct_J3
      dsimp only
      rw [w64_of (x := (i : Int) + 1) (by omega), show i * (m * m) + m * m = (i + 1) * (m * m) by rw [Nat.add_mul, Nat.one_mul]]
      rfl
    · unfold gameroomref_MagicProduct_L2
      dsimp only
      rw [if_neg (by rw [hb]; simp)]
    · have hv : geti l2 ((i * (m * m) + k : Nat) : Int) = vP a b m i k := by
        rw [← hl2, mr_geti (hlt i k hi hk), (hdm i k hk).1, (hdm i k hk).2]
      have hp := (okPQ_at ok (hlt i k hi hk)).1
      have hpe : pP n m (i * (m * m) + k) = (i / n * m + k / m) * n * m + (i % n * m + k % m) := by
        unfold pP
        rw [(hdm i k hk).1, (hdm i k hk).2]
      have i1 := div_lt hn hn2 hi
      have i2 := Nat.mod_lt i hn
      have k1 := div_lt hm hm2 hk
      have k2 := Nat.mod_lt k hm
      have y1 : i / n * m + k / m < n * m := by
        have : (i / n + 1) * m ≤ n * m := Nat.mul_le_mul_right _ i1
        rw [Nat.add_mul] at this
        omega
      have x1 : i % n * m + k % m < n * m := by
        have : (i % n + 1) * m ≤ n * m := Nat.mul_le_mul_right _ i2
        rw [Nat.add_mul] at this
        omega
      show _ = some (St.next ((spr (pP n m) l2 (n * m * n * m) (i * (m * m) + k)).set (pP n m (i * (m * m) + k)) (geti l2 ((i * (m * m) + k : Nat) : Int)), ((k + 1 : Nat) : Int)))
      rw [hv, hpe]
      rw [hpe] at hp
      generalize spr (pP n m) l2 (n * m * n * m) (i * (m * m) + k) = cur
      unfold gameroomref_MagicProduct_L2 gameroomref_MagicProduct_J4 gameroomref_MagicProduct_J5
      dsimp only
      rw [if_pos (by rw [decide_eq_true_eq]; omega), tdiv_nat, tdiv_nat, tmod_nat, tmod_nat]
      generalize i / n = i' at *
      generalize k / m = k' at *
      generalize i % n = i'' at *
      generalize k % m = k'' at *
      have q1 : (i' * m + k') * n ≤ 144 := Nat.le_trans (Nat.mul_le_mul (Nat.le_of_lt y1) (Nat.le_refl n)) hmn
      have q2 : (i' * m + k') * n * m ≤ 144 * 12 := Nat.mul_le_mul q1 hm2
      rw [w64_nat (k := i') (by omega), w64_nat (k := k') (by omega), w64_mulN (a := i') (by omega), w64_addN (by omega), w64_mulN (a := i'') (by omega), w64_addN (a := i'' * m) (by omega), w64_mulN (a := i' * m + k') (by omega), w64_mulN (a := (i' * m + k') * n) (by omega), w64_addN (by omega), w64_mulN (a := n) (by omega), w64_mulN (a := n * m) (by omega), w64_mulN (a := n * m * n) (by omega), asrt_pos (by omega), asrt_pos (by omega), asrt_pos (by omega), asrt_pos (by omega), asrt_pos (by omega), asrt_pos (by omega), asrt_pos (by rw [Int.toNat_natCast]; omega), Int.toNat_natCast, w64_of (x := (k : Int) + 1) (by omega)]
      rfl
end

theorem out_d {step : Int → Option (St Int (Fl Unit Bool))} {l : List Int} {c : Bool} (hs : ∀ i : Nat, i < l.length → step (i : Int) = if decide (geti l (i : Int) < 1) || decide ((l.length : Int) < geti l (i : Int)) then some (.done (.ret c)) else some (.next ((i + 1 : Nat) : Int))) (he : step (l.length : Int) = some (.done (.go ()))) : loop step 0 = some (if outB l then .ret c else .go ()) := by
  rw [show (0 : Int) = ((0 : Nat) : Int) from rfl, loop_find (f := fun k => (k : Int)) (n := l.length) (bad := fun i => decide (geti l (i : Int) < 1) || decide ((l.length : Int) < geti l (i : Int))) hs he]
  congr 2
  unfold outB
  rw [Bool.eq_iff_iff, List.any_eq_true, List.any_eq_true]
  simp only [eq_iff_iff, iff_true]
  constructor
  · rintro ⟨i, hi, h⟩
    have hi := List.mem_range.1 hi
    refine ⟨geti l (i : Int), ?_, h⟩
    rw [geti_bang hi, getElem!_pos l i hi]
    exact List.getElem_mem _
  · rintro ⟨x, hx, h⟩
    obtain ⟨j, hj, rfl⟩ := List.mem_iff_getElem.1 hx
    exact ⟨j, List.mem_range.2 hj, by rwa [geti_bang hj, getElem!_pos l j hj]⟩

theorem true_MagicTells (l b : List Int) (hl : l.length ≤ 17592186043904) (_il : ∀ y ∈ l, inI y) (hb : b.length ≤ 17592186043904) (_ib : ∀ y ∈ b, inI y) : gameroomlaw_MagicTells_m l b = some true := by
  have hints : ∀ l : List Int, l.length ≤ 17592186043904 → gameroomlaw_ints_m l = some l := fun l h => by
    unfold gameroomlaw_ints_m
    rw [asrt_pos (by unfold bigN; omega), List.nil_append]
  unfold gameroomlaw_MagicTells_m
  rw [hints l hl, Option.bind_some]
  rcases sides hl with ⟨n, n1, n2, n3, sp, sd⟩ | ⟨sp, sd⟩
  · have h4 := nn_le n1 n2
    have hIs : magic_Is_m l = some (if farOf l then (0, 0, 3) else ((kindS l n).1, (kindS l n).2, 0)) := by
      unfold magic_Is_m
      rw [sp, Option.bind_some, if_neg (by rw [beq_iff_eq]; omega), far_p hl, Option.bind_some]
      by_cases hf : farOf l = true
      · rw [if_pos hf, if_pos hf]
      · rw [if_neg hf, if_neg hf]
        unfold magic_Is_J1
        rw [kind_p n1 n2 n3, Option.bind_some]
    rw [hIs, Option.bind_some, Option.bind_some, forms_p n1 n2 n3 sp, Option.bind_some, Option.bind_some, hints b hb, Option.bind_some]
    have hfd := forms_d n1 n2 n3 sd
    rw [← forms_eq (l := l) n1 n2] at hfd
    have hsame : gameroomlaw_sameRows_m (compR (sortK cmpL ((ixP n 4).map (img l)))) (compR (sortK cmpL ((ixP n 4).map (img l)))) = some true := by
      rw [forms_eq n1 n2]
      refine rows_refl ?_ fun x hx => ?_
      · have : ∀ ws l : List (List Int), (insAll ws l).length ≤ ws.length + l.length := by
          intro ws
          induction ws with
          | nil => intro l; simp [insAll]
          | cons w ws ih =>
            intro l
            have := ih (insW w l)
            have h2 := insW_len (w := w) (l := l)
            show (insAll ws (insW w l)).length ≤ _
            simp only [List.length_cons]
            omega
        have := this ((ixD n 8).map (img l)) []
        simp [ixD] at this ⊢
        omega
      · rw [insAll_mem] at hx
        rcases hx with hx | hx
        · obtain ⟨y, hy, rfl⟩ := List.mem_map.1 hx
          unfold ixD at hy
          obtain ⟨z, _, rfl⟩ := List.mem_map.1 hy
          rw [img_length, List.length_map, List.length_range]
          omega
        · cases hx
    -- what is told of the kind
    have hJ2 : ∀ (r7 : List Int × Int) (r8 r9 : Int), gameroomlaw_MagicTells_J1 l b (if farOf l then ((0 : Int), (0 : Int), (3 : Int)) else ((kindS l n).1, (kindS l n).2, (0 : Int))) (compR (sortK cmpL ((ixP n 4).map (img l))), 0) r7 r8 r9 = gameroomlaw_MagicTells_J6 l b r7 r8 r9 := fun r7 r8 r9 => by
      unfold gameroomlaw_MagicTells_J1
      rw [far_d hl, Option.bind_some]
      unfold gameroomlaw_MagicTells_K1 gameroomlaw_MagicTells_J2
      dsimp only
      have hJ5 : gameroomlaw_MagicTells_J5 l b (compR (sortK cmpL ((ixP n 4).map (img l))), 0) r7 r8 r9 = gameroomlaw_MagicTells_J6 l b r7 r8 r9 := by
        unfold gameroomlaw_MagicTells_J5
        dsimp only
        rw [if_neg (by decide), hfd, Option.bind_some, if_pos (by decide), hsame, Option.bind_some]
        rfl
      by_cases hf : farOf l = true
      · rw [if_pos hf, if_pos hf, if_neg (by decide), hJ5]
      · rw [if_neg hf, if_neg hf, kind_d n1 n2 n3 hl, Option.bind_some, if_neg (by simp), hJ5]
    rcases sides hb with ⟨m, m1, m2, m3, tp, td⟩ | ⟨tp, td⟩
    · have k4 := nn_le m1 m2
      by_cases hnm : n * m ≤ 12
      · rw [prod_p n1 m1 hnm n3 m3 sp tp, Option.bind_some, sd, Option.bind_some, td, Option.bind_some, if_neg (by rw [beq_iff_eq]; omega), hJ2]
        unfold gameroomlaw_MagicTells_J6
        rw [w64_mulN (by omega), if_neg (by simp; omega)]
        unfold gameroomlaw_MagicTells_J8
        have loopA : ∀ r7 : List Int × Int, loop (gameroomlaw_MagicTells_L2 l r7 (n : Int)) 0 = some (if outB l then Fl.ret ((r7.2 == 3) && ((r7.1.length : Int) == 0)) else Fl.go ()) := fun r7 => out_d (fun i hi => by
          unfold gameroomlaw_MagicTells_L2 gameroomlaw_MagicTells_J10 gameroomlaw_MagicTells_J11
          dsimp only
          rw [if_pos (by rw [decide_eq_true_eq]; omega), asrt_pos (by omega), asrt_pos (fun _ => by omega), w64_mulN (by omega), n3, w64_of (x := (i : Int) + 1) (by omega)]
          rfl) (by
          unfold gameroomlaw_MagicTells_L2
          dsimp only
          rw [if_neg (by simp)])
        have loopB : ∀ r7 : List Int × Int, loop (gameroomlaw_MagicTells_L3 b r7 (m : Int)) 0 = some (if outB b then Fl.ret ((r7.2 == 3) && ((r7.1.length : Int) == 0)) else Fl.go ()) := fun r7 => out_d (fun i hi => by
          unfold gameroomlaw_MagicTells_L3 gameroomlaw_MagicTells_J13 gameroomlaw_MagicTells_J14
          dsimp only
          rw [if_pos (by rw [decide_eq_true_eq]; omega), asrt_pos (by omega), asrt_pos (fun _ => by omega), w64_mulN (by omega), m3, w64_of (x := (i : Int) + 1) (by omega)]
          rfl) (by
          unfold gameroomlaw_MagicTells_L3
          dsimp only
          rw [if_neg (by simp)])
        rw [loopA, Option.bind_some]
        cases oa : outB l with
        | true => rfl
        | false =>
          cases ob : outB b with
          | true =>
            show gameroomlaw_MagicTells_J9 l b (([] : List Int), 3) (m : Int) = _
            unfold gameroomlaw_MagicTells_J9
            rw [loopB, Option.bind_some, ob, if_pos rfl]
            rfl
          | false =>
            show gameroomlaw_MagicTells_J9 l b ((List.range (n * m * n * m)).map (fun j => vP l b m (iP n m j) (kP n m j)), 0) (m : Int) = _
            unfold gameroomlaw_MagicTells_J9
            rw [loopB, Option.bind_some, ob, if_neg (by decide)]
            show gameroomlaw_MagicTells_J12 l b _ = _
            unfold gameroomlaw_MagicTells_J12
            dsimp only
            rw [if_pos (by decide), prod_d n1 m1 hnm n3 m3 sd td, Option.bind_some, if_pos (by decide), same_w (by rw [List.length_map, List.length_range]; have := nm4 n1 m1 hnm; omega), Option.bind_some, decide_eq_true rfl]
            rfl
      · have hp : magic_Product_m l b = some (([] : List Int), 2) := by
          unfold magic_Product_m
          have : n * m ≤ 12 * 12 := Nat.mul_le_mul n2 m2
          rw [sp, Option.bind_some, tp, Option.bind_some, w64_mulN (by omega), if_pos (by simp; omega)]
        have : n * m ≤ 12 * 12 := Nat.mul_le_mul n2 m2
        rw [hp, Option.bind_some, sd, Option.bind_some, td, Option.bind_some, if_neg (by rw [beq_iff_eq]; omega), hJ2]
        unfold gameroomlaw_MagicTells_J6
        rw [w64_mulN (by omega), if_pos (by simp; omega)]
        rfl
    · have hp : magic_Product_m l b = some (([] : List Int), 2) := by
        unfold magic_Product_m
        rw [sp, Option.bind_some, tp, Option.bind_some, if_pos (by simp)]
      rw [hp, Option.bind_some, sd, Option.bind_some, td, Option.bind_some, if_neg (by rw [beq_iff_eq]; omega), hJ2]
      unfold gameroomlaw_MagicTells_J6
      rw [if_pos (by simp)]
      rfl
  · have e1 : magic_Is_m l = some (0, 0, 2) := by
      unfold magic_Is_m
      rw [sp, Option.bind_some, if_pos (by decide)]
    have e2 : magic_Forms_m l = some (([] : List (List Int)), 2) := by
      unfold magic_Forms_m
      rw [sp, Option.bind_some, if_pos (by decide)]
    obtain ⟨sb, hsb⟩ : ∃ sb, magic_side_m b = some sb ∧ gameroomref_MagicSide_m b = some sb := by
      rcases sides hb with ⟨m, _, _, _, tp, td⟩ | ⟨tp, td⟩
      · exact ⟨_, tp, td⟩
      · exact ⟨_, tp, td⟩
    have e3 : magic_Product_m l b = some (([] : List Int), 2) := by
      unfold magic_Product_m
      rw [sp, Option.bind_some, hsb.1, Option.bind_some, if_pos (by simp)]
    rw [e1, Option.bind_some, Option.bind_some, e2, Option.bind_some, Option.bind_some, hints b hb, Option.bind_some, e3, Option.bind_some, sd, Option.bind_some, hsb.2, Option.bind_some, if_pos (by decide)]
    rfl
end Go.Proofs.Ytoickcchcjehdaa
