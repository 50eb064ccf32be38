/-
  TopHex: the game, and the law.
-/
import Derived.Test.YtgogihcmnkncjaaTYc
namespace Go.Proofs.Ytgogihcmnkncjaa
open Go Go.GL

section
variable {n : Nat} {c : List Int}

structure BI (n : Nat) (c : List Int) : Prop where
  n1 : 1 ≤ n
  n6 : n ≤ 6
  len : c.length = n * n
  val : ∀ b : Nat, b < n * n → 0 ≤ geti c (b : Int) ∧ geti c (b : Int) ≤ 2

theorem BI.nn (h : BI n c) : n * n ≤ 36 := Nat.mul_le_mul h.n6 h.n6
theorem BI.dm (h : BI n c) : Dm (n : Int) (n : Int) c := by
  have := h.n1
  have := h.n6
  exact ⟨by omega, by omega, by rw [h.len, Int.natCast_mul]⟩
theorem BI.ok (h : BI n c) : okG (n : Int) (n : Int) c = true := by
  have hd := h.dm
  unfold okG
  rw [Bool.and_eq_true, Bool.not_eq_true', decide_eq_true_eq]
  refine ⟨⟨hd.w.1, hd.w.2, hd.h.1, hd.h.2, hd.len⟩, ?_⟩
  rw [List.any_eq_false]
  intro x hx
  obtain ⟨i, hi, rfl⟩ := List.getElem_of_mem hx
  have g := get_geti hi
  rw [List.getElem?_eq_getElem hi] at g
  rw [Option.some.inj g]
  have := h.val i (by rw [← h.len]; exact hi)
  unfold offG
  rw [Bool.or_eq_true, decide_eq_true_eq, decide_eq_true_eq]
  omega

theorem check_ok (h : BI n c) : hex_check_m n n c = some 0 := by
  have := h.nn
  unfold hex_check_m hex_check_J1
  rw [may_p _ _ (by rw [h.len]; omega), Option.bind_some, h.ok]
  simp
theorem player_ok (h : BI n c) {who : Int} (hw : who = 1 ∨ who = 2) : hex_player_m n n c who = some 0 := by
  unfold hex_player_m hex_player_J1
  rw [check_ok h, Option.bind_some]
  rcases hw with rfl | rfl <;> rfl
theorem joined_ok (h : BI n c) : ∃ y, hex_Joined_m n n c = some (JV n c, y, 0) := by
  obtain ⟨y, hy⟩ := joined_v h.dm h.len
  unfold hex_Joined_m hex_Joined_J1
  rw [check_ok h, Option.bind_some, if_neg (by decide), hy]
  exact ⟨y, rfl⟩
theorem short_ok (h : BI n c) {who : Int} (hw : who = 1 ∨ who = 2) : ∃ k, hex_Shortest_m n n c who = some (k, 0) ∧ AnsS (WayS (n : Int) c who) (goalS (n : Int) c who) k := by
  have := h.nn
  unfold hex_Shortest_m
  rw [player_ok h hw, Option.bind_some, if_neg (by decide)]
  exact shortest_p h.dm hw (fun i hi => h.val i (by rw [← h.len]; exact hi)) (by rw [h.len]; omega)

theorem pick_ok {m of : Int} (hm : inI m) (ho : 0 < of ∧ of ≤ 100) : ∃ k : Nat, gameroomtop_picked_m m of = some (k : Int) ∧ (k : Int) < of := by
  have key : ∀ x : Int, 0 ≤ x → ∃ k : Nat, gameroomtop_picked_J1 of x = some (k : Int) ∧ (k : Int) < of := fun x hx => by
    unfold gameroomtop_picked_J1
    rw [asrt_pos (by omega), Int.tmod_eq_emod_of_nonneg hx]
    have h1 := Int.emod_nonneg x (show of ≠ 0 by omega)
    have h2 := Int.emod_lt_of_pos x ho.1
    exact ⟨(x % of).toNat, by rw [Int.toNat_of_nonneg h1], by omega⟩
  unfold gameroomtop_picked_m
  unfold inI at hm
  by_cases h : m < 0
  · rw [if_pos (decide_eq_true h), w64_of (x := m + 1) (by omega), w64_of (by omega)]
    exact key _ (by omega)
  · rw [if_neg (by rw [decide_eq_true_eq]; exact h)]
    exact key _ (by omega)

theorem split_at {l : List Int} {i : Nat} (h : i < l.length) : l = l.take i ++ geti l (i : Int) :: l.drop (i + 1) := by
  have g := get_geti h
  rw [List.getElem?_eq_getElem h] at g
  have : l.drop i = geti l (i : Int) :: l.drop (i + 1) := by rw [List.drop_eq_getElem_cons h, Option.some.inj g]
  rw [← this, List.take_append_drop]
theorem gset {d : List Int} {a b : Nat} {v : Int} (ha : a < d.length) : geti (d.set a v) (b : Int) = if a = b then v else geti d (b : Int) := by
  rw [geti_nat, geti_nat, List.getD_eq_getElem?_getD, List.getD_eq_getElem?_getD, List.getElem?_set]
  by_cases h : a = b
  · rw [if_pos h, if_pos h, if_pos ha]; rfl
  · rw [if_neg h, if_neg h]

structure LI (n : Nat) (g left : List Int) : Prop where
  b : BI n g
  mem : ∀ x ∈ left, (0 ≤ x ∧ x < ((n * n : Nat) : Int)) ∧ geti g x = 0
  all : ∀ b : Nat, b < n * n → geti g (b : Int) = 0 → (b : Int) ∈ left
  nd : left.Nodup

theorem step_ok {g left : List Int} (H : LI n g left) {i k : Nat} (hi : i ≤ 100) (hk : k < left.length) : ∃ g', gameroomtop_TopHex_J7 (((n : Int)) - 1) g left (JV n g) i k = some (.next (g', left.take k ++ left.drop (k + 1), JV n g', ((i + 1 : Nat) : Int))) ∧ LI n g' (left.take k ++ left.drop (k + 1)) := by
  have hn1 := H.b.n1
  have hn6 := H.b.n6
  have hnn := H.b.nn
  have hgl := H.b.len
  have hx := H.mem _ (List.mem_of_getElem? (get_geti hk))
  have hsp := split_at hk
  have hnd := H.nd
  rw [hsp] at hnd
  have hnd2 := (List.perm_middle.nodup_iff).1 hnd
  rw [List.nodup_cons] at hnd2
  obtain ⟨a, hxa⟩ : ∃ a : Nat, geti left (k : Int) = (a : Int) := ⟨_, (Int.toNat_of_nonneg hx.1.1).symm⟩
  have han : a < n * n := by omega
  have hmodi : Int.tmod (i : Int) 2 = ((i % 2 : Nat) : Int) := tmod_nat i 2
  have hv : w64 (1 + Int.tmod (i : Int) 2) = ((1 + i % 2 : Nat) : Int) := by
    rw [hmodi, w64_of (by omega)]; omega
  have hB' : BI n (g.set a ((1 + i % 2 : Nat) : Int)) := ⟨hn1, hn6, by rw [List.length_set, hgl], fun b hb => by
    rw [gset (by omega)]
    split
    · omega
    · exact H.b.val b hb⟩
  have hlen : left.length ≤ 1000 := by
    have hsub : ∀ x ∈ left, x ∈ (List.range (n * n)).map (fun (j : Nat) => (j : Int)) := fun x hx => by
      have := (H.mem x hx).1
      exact List.mem_map.2 ⟨x.toNat, List.mem_range.2 (by omega), by omega⟩
    have := nodup_len H.nd (L := n * n) (fun q hq => by
      have := (H.mem q hq).1
      exact ⟨q.toNat, by omega, by omega⟩)
    omega
  have hmemne : ∀ y, y ∈ left.take k ++ left.drop (k + 1) → y ∈ left ∧ y ≠ (a : Int) := fun y hy => by
    refine ⟨?_, fun e => hnd2.1 (by rw [hxa, ← e]; exact hy)⟩
    rw [hsp]
    rcases List.mem_append.1 hy with h | h
    · exact List.mem_append_left _ h
    · exact List.mem_append_right _ (List.mem_cons_of_mem _ h)
  refine ⟨g.set a ((1 + i % 2 : Nat) : Int), ?_, hB', fun y hy => ?_, fun b hb h0 => ?_, hnd2.2⟩
  · have e1 : cut left 0 (k : Int) = left.take k := by simp [cut]
    have e2 : cut left ((k : Int) + 1) (left.length : Int) = left.drop (k + 1) := by
      unfold cut
      rw [show ((k : Int) + 1).toNat = k + 1 by omega]
      exact List.take_of_length_le (by rw [List.length_drop]; omega)
    have en : w64 (1 + ((n : Int) - 1)) = (n : Int) := by rw [w64_of (by omega)]; omega
    obtain ⟨y, hy⟩ := joined_ok hB'
    obtain ⟨p, hp, ap⟩ := short_ok hB' (.inl rfl)
    obtain ⟨q, hq, aq⟩ := short_ok hB' (.inr rfl)
    have s1 := short1 hn1 hB'.len ap
    have s2 := short2 hn1 hB'.len aq
    have hst : 0 < JV n g → JV n (g.set a ((1 + i % 2 : Nat) : Int)) = JV n g := stays hn1 (fun b hb h => by
      rw [gset (by omega), if_neg]
      intro e
      subst e
      rw [hxa] at hx
      exact h hx.2)
    unfold gameroomtop_TopHex_J7
    rw [asrt_pos (by omega), asrt_pos (by omega), w64_of (x := (k : Int) + 1) (by omega), asrt_pos (by omega), e1, e2, asrt_pos (by rw [List.length_take]; unfold bigN; omega), List.nil_append, asrt_pos (by rw [List.length_take, List.length_drop]; unfold bigN; omega), asrt_pos (by rw [hgl]; unfold bigN; omega), List.nil_append, asrt_pos (by omega), en, hv, hxa, Int.toNat_natCast, hy, Option.bind_some, hp, Option.bind_some, hq, Option.bind_some]
    generalize JV n (g.set a ((1 + i % 2 : Nat) : Int)) = J at *
    generalize JV n g = J0 at *
    rw [if_neg]
    · unfold gameroomtop_TopHex_J8 gameroomtop_TopHex_J6
      rw [w64_of (x := (k : Int) + 1) (by omega), e1, e2, hv, hxa, Int.toNat_natCast, w64_of (by omega)]
      rfl
    · have b1 : (p == -1) = (J == 2) := by rw [Bool.eq_iff_iff, beq_iff_eq, beq_iff_eq]; exact s1.1
      have b2 : (p == 0) = (J == 1) := by rw [Bool.eq_iff_iff, beq_iff_eq, beq_iff_eq]; exact s1.2
      have b3 : (q == -1) = (J == 1) := by rw [Bool.eq_iff_iff, beq_iff_eq, beq_iff_eq]; exact s2.1
      have b4 : (q == 0) = (J == 2) := by rw [Bool.eq_iff_iff, beq_iff_eq, beq_iff_eq]; exact s2.2
      simp only [b1, b2, b3, b4]
      by_cases h0 : 0 < J0
      · rw [hst h0]; simp
      · simp; omega
  · obtain ⟨h1, h2⟩ := hmemne y hy
    obtain ⟨h3, h4⟩ := H.mem y h1
    obtain ⟨b, rfl⟩ : ∃ b : Nat, y = (b : Int) := ⟨y.toNat, by omega⟩
    refine ⟨h3, ?_⟩
    rw [gset (by omega), if_neg (by omega)]
    exact h4
  · rw [gset (by omega)] at h0
    split at h0
    · omega
    · rename_i hne
      have hm := H.all b hb h0
      rw [hsp] at hm
      rcases List.mem_append.1 hm with h | h
      · exact List.mem_append_left _ h
      · rcases List.mem_cons.1 h with h | h
        · omega
        · exact List.mem_append_right _ h

theorem game_ok {raw : List Int} (hraw : ∀ x ∈ raw, inI x) : ∀ (m : Nat) (g left : List Int) (i : Nat), left.length = m → LI n g left → i + m ≤ 100 → ∃ w : Int, loop (gameroomtop_TopHex_L2 raw ((n : Int) - 1)) (g, left, JV n g, (i : Int)) = some (.go w) ∧ (w = 1 ∨ w = 2)
  | 0, g, left, i, hl, H, _ => by
    have hnil : left = [] := List.length_eq_zero_iff.1 hl
    subst hnil
    refine ⟨JV n g, loop_done ?_, full_won H.b.n1 (fun b hb => ?_)⟩
    · simp only [gameroomtop_TopHex_L2]
      rw [if_neg (by decide)]
    · have := H.b.val b hb
      have h0 : geti g (b : Int) ≠ 0 := fun e => by have := H.all b hb e; cases this
      omega
  | m + 1, g, left, i, hl, H, hi => by
    have hst : ∃ k : Nat, k < left.length ∧ gameroomtop_TopHex_L2 raw ((n : Int) - 1) (g, left, JV n g, (i : Int)) = gameroomtop_TopHex_J7 ((n : Int) - 1) g left (JV n g) i k := by
      simp only [gameroomtop_TopHex_L2]
      rw [if_pos (decide_eq_true (by omega))]
      unfold gameroomtop_TopHex_J5
      by_cases hr : i < raw.length
      · obtain ⟨k, hk, hk2⟩ := pick_ok (hraw _ (List.mem_of_getElem? (get_geti hr))) (of := (left.length : Int)) (by omega)
        refine ⟨k, by omega, ?_⟩
        rw [if_pos (decide_eq_true (by omega)), asrt_pos (by omega), hk]
        rfl
      · refine ⟨0, by omega, ?_⟩
        rw [if_neg (by rw [decide_eq_true_eq]; omega)]
        rfl
    obtain ⟨k, hk, e⟩ := hst
    obtain ⟨g', e2, H'⟩ := step_ok H (i := i) (by omega) hk
    obtain ⟨w, e3, hw⟩ := game_ok hraw m g' (left.take k ++ left.drop (k + 1)) (i + 1) (by rw [List.length_append, List.length_take, List.length_drop]; omega) H' (by omega)
    exact ⟨w, loop_next' (e.trans e2) e3, hw⟩
end

theorem true_TopHex (x0 : Int) (x1 : List Int) (h0 : inI x0) (_h1 : x1.length ≤ 17592186043904) (h1' : ∀ x ∈ x1, inI x) : gameroomtop_TopHex_m x0 x1 = some true := by
  obtain ⟨r, hr, hr6⟩ := pick_ok h0 (of := 6) (by omega)
  unfold gameroomtop_TopHex_m
  have hn6 : (r + 1) * (r + 1) ≤ 36 := Nat.mul_le_mul (show r + 1 ≤ 6 by omega) (show r + 1 ≤ 6 by omega)
  have ew : w64 (1 + (r : Int)) = ((r + 1 : Nat) : Int) := by rw [w64_of (by omega)]; omega
  have enn : w64 (((r + 1 : Nat) : Int) * ((r + 1 : Nat) : Int)) = (((r + 1) * (r + 1) : Nat) : Int) := by
    rw [← Int.natCast_mul, w64_of (by omega)]
  rw [hr, Option.bind_some, ew, enn, asrt_pos (by unfold bigN; omega)]
  have hloop : loop (gameroomtop_TopHex_L1 (r : Int)) (([] : List Int), 0) = some ((List.range ((r + 1) * (r + 1))).map (fun (j : Nat) => (j : Int))) := by
    refine loop_from (f := fun i => ((List.range i).map (fun (j : Nat) => (j : Int)), (i : Int))) ((r + 1) * (r + 1)) (by rfl) (fun i hi => ?_) ?_
    · simp only [gameroomtop_TopHex_L1]
      rw [ew, enn, if_pos (decide_eq_true (by omega))]
      unfold gameroomtop_TopHex_J2 gameroomtop_TopHex_J3
      rw [asrt_pos (by rw [List.length_map, List.length_range]; unfold bigN; omega), List.range_succ, List.map_append, w64_of (by omega)]
      rfl
    · simp only [gameroomtop_TopHex_L1]
      rw [ew, enn, if_neg (by simp)]
  rw [hloop, Option.bind_some]
  simp only [gameroomtop_TopHex_K1]
  unfold gameroomtop_TopHex_J1
  rw [ew, enn, Int.toNat_natCast]
  have hzero : ∀ b : Nat, geti (List.replicate ((r + 1) * (r + 1)) (0 : Int)) (b : Int) = 0 := fun b => by
    rw [geti_nat, List.getD_eq_getElem?_getD, List.getElem?_replicate]
    split <;> rfl
  have H : LI (r + 1) (List.replicate ((r + 1) * (r + 1)) (0 : Int)) ((List.range ((r + 1) * (r + 1))).map (fun (j : Nat) => (j : Int))) := by
    refine ⟨⟨by omega, by omega, List.length_replicate, fun b _ => by rw [hzero]; omega⟩, fun x hx => ?_, fun b hb _ => ?_, ?_⟩
    · obtain ⟨j, hj, rfl⟩ := List.mem_map.1 hx
      have := List.mem_range.1 hj
      exact ⟨by omega, hzero j⟩
    · exact List.mem_map.2 ⟨b, List.mem_range.2 hb, rfl⟩
    · rw [List.Nodup, List.pairwise_map]
      exact List.pairwise_lt_range.imp (fun h => by omega)
  obtain ⟨w, e, hw⟩ := game_ok (n := r + 1) h1' ((r + 1) * (r + 1)) _ _ 0 (by simp) H (by omega)
  rw [empty_none (fun b _ => hzero b), show ((r + 1 : Nat) : Int) - 1 = (r : Int) by omega] at e
  have e' : loop (gameroomtop_TopHex_L2 x1 (r : Int)) (List.replicate ((r + 1) * (r + 1)) (0 : Int), (List.range ((r + 1) * (r + 1))).map (fun (j : Nat) => (j : Int)), 0, 0) = some (.go w) := e
  rw [e', Option.bind_some]
  simp only [gameroomtop_TopHex_K2]
  unfold gameroomtop_TopHex_J4
  rcases hw with rfl | rfl <;> rfl
end Go.Proofs.Ytgogihcmnkncjaa
