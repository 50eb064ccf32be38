/-
  Pegs: boards of one game, their pegs and names, what jumps make of them.
-/
import Derived.Test.YtjfloofoobllaaaPJ
namespace Go.Proofs.Ytjfloofoobllaaa
open Go Go.GL

theorem geti_elem {l : List Int} {i : Nat} (h : i < l.length) : geti l (i : Int) = l[i] := by
  have := get_geti h
  rw [List.getElem?_eq_getElem h] at this
  exact (Option.some.inj this).symm

theorem many_loop {d : List Int} (v : Int) (hl : d.length ≤ 1000000) : loop (pegs_many_L1 d v) (0, 0) = some ((d.count v : Nat) : Int) := by
  have key := count_loop (step := pegs_many_L1 d v) (fun (k : Int) (i : Nat) => (k, (i : Int))) (fun n k => k = (((d.take n).count v : Nat) : Int)) (fun r => r = ((d.count v : Nat) : Int)) d.length 0 rfl (by
      rintro i k hi rfl
      left
      have hle : (d.take i).count v ≤ 1000000 := by
        have := List.count_le_length (a := v) (l := d.take i)
        rw [List.length_take] at this
        omega
      simp only [pegs_many_L1]
      rw [if_pos (by simp; omega)]
      unfold pegs_many_J2 pegs_many_J3
      rw [asrt_pos (by omega), w64_of (x := (i : Int) + 1) (by omega), List.take_add_one, List.count_append, List.getElem?_eq_getElem hi, geti_elem hi]
      simp only [Option.toList_some, List.count_singleton]
      by_cases h : d[i] = v
      · rw [if_pos (by rw [h]; simp), if_pos (by rw [h]; simp)]
        rw [w64_of (x := (((d.take i).count v : Nat) : Int) + 1) (by omega)]
        exact ⟨_, rfl, by omega⟩
      · rw [if_neg (by simpa using h), if_neg (by simpa using h)]
        exact ⟨_, rfl, rfl⟩) (by
      rintro k rfl
      simp only [pegs_many_L1]
      rw [if_neg (by simp)]
      exact ⟨_, rfl, by rw [List.take_length]⟩)
  obtain ⟨r, hr, rfl⟩ := key
  exact hr
theorem many_p (g1 g2 : Int) {d : List Int} (v : Int) (hl : d.length ≤ 1000000) : pegs_many_m g1 g2 d v = some ((d.count v : Nat) : Int) := by
  unfold pegs_many_m
  rw [many_loop v hl]
  rfl
theorem count_p (g1 g2 : Int) {d : List Int} (v : Int) (hl : d.length ≤ 1000000) : gameroomref_CountSign_m g1 g2 d v = some ((d.count v : Nat) : Int) := by
  unfold gameroomref_CountSign_m
  have : gameroomref_CountSign_L1 d v = pegs_many_L1 d v := by
    funext x
    obtain ⟨x, y⟩ := x
    rfl
  rw [this, many_loop v hl]
  rfl
theorem great_both (g1 g2 : Int) {d : List Int} (hl : d.length ≤ 1000000) : ∃ b : Bool, pegs_great_m g1 g2 d = some b ∧ gameroomref_PegsMay_m g1 g2 d = some (!b) ∧ (b = false → d.count 1 ≤ 7) := by
  have h1 := List.count_le_length (a := (1 : Int)) (l := d)
  have h0 := List.count_le_length (a := (0 : Int)) (l := d)
  unfold pegs_great_m gameroomref_PegsMay_m
  rw [many_p g1 g2 1 hl, count_p g1 g2 1 hl, Option.bind_some, Option.bind_some]
  by_cases h : (7 : Int) < ((d.count 1 : Nat) : Int)
  · rw [if_neg (by simp; omega), if_neg (by simp; omega), if_neg (by simp; omega), if_neg (by simp; omega)]
    refine ⟨true, ?_, ?_, fun h => by cases h⟩
    · simp only [Option.bind_some, decide_eq_true h, Bool.true_or]
    · simp only [Option.bind_some, decide_eq_false (show ¬ ((d.count 1 : Nat) : Int) ≤ 7 by omega), Bool.false_and, Bool.not_true]
  · rw [if_pos (by simp; omega), if_pos (by simp; omega), if_pos (by simp; omega), if_pos (by simp; omega), many_p g1 g2 0 hl, count_p g1 g2 0 hl, Option.bind_some, Option.bind_some, Option.bind_some, Option.bind_some, w64_of (by omega)]
    refine ⟨decide ((20 : Int) < ((d.count 1 : Nat) : Int) + ((d.count 0 : Nat) : Int)), ?_, ?_, fun _ => by omega⟩
    · rw [decide_eq_false h, Bool.false_or]
    · rw [decide_eq_true (show ((d.count 1 : Nat) : Int) ≤ 7 by omega), Bool.true_and]
      congr 1
      rw [Bool.eq_iff_iff]
      simp

/-- A board's name. -/
def nmP (d : List Int) : List UInt8 := b8 (d.map fun x => IntKind.wrap .u8 x)
theorem fill_setP (g : List Int) (h : Int → Int) {i : Nat} (hi : i < g.length) : ((g.take i).map h ++ List.replicate (g.length - i) (0 : Int)).set i (h (geti g (i : Int))) = (g.take (i + 1)).map h ++ List.replicate (g.length - (i + 1)) (0 : Int) := by
  have hl : ((g.take i).map h).length = i := by simp; omega
  rw [List.set_append_right _ _ (by omega), hl, Nat.sub_self, show g.length - i = (g.length - (i + 1)) + 1 by omega, List.replicate_succ, List.set_cons_zero, List.take_add_one, get_geti hi]
  simp
theorem name_p {d : List Int} (all : List (Int × Int × Int)) (tr : List (List UInt8 × Bool)) (hl : d.length ≤ 1000000) : pegs_search_name_m d all tr = some (nmP d) := by
  unfold pegs_search_name_m
  rw [asrt_pos (by unfold bigN; omega), Int.toNat_natCast]
  have key : loop (pegs_search_name_L1 d) (List.replicate d.length 0, 0) = some (d.map fun x => IntKind.wrap .u8 x) := by
    refine loop_from (fun i => ((d.take i).map (fun x => IntKind.wrap .u8 x) ++ List.replicate (d.length - i) (0 : Int), (i : Int))) d.length (by simp) (fun i hi => ?_) ?_
    · simp only [pegs_search_name_L1]
      rw [if_pos (by simp; omega)]
      unfold pegs_search_name_J2 pegs_search_name_J3
      rw [asrt_pos (by omega), asrt_pos (by omega), Int.toNat_natCast, w64_succ (by omega), fill_setP d (fun x => IntKind.wrap .u8 x) hi]
      rfl
    · simp only [pegs_search_name_L1]
      rw [if_neg (by simp), List.take_length]
      simp
  rw [key]
  rfl

/-- A board of a game that began with c. -/
structure Bd (W H : Nat) (c d : List Int) : Prop where
  wl : Wl c d
  dm : Dm W H d
  in_ : ∀ i : Nat, i < d.length → 0 ≤ geti d (i : Int) ∧ geti d (i : Int) ≤ 2

section
variable {W H : Nat} {c d e f : List Int}

theorem nmP_inj (h1 : Bd W H c d) (h2 : Bd W H c e) (h : nmP d = nmP e) : d = e := by
  have hl : d.length = e.length := by rw [h1.wl.len, h2.wl.len]
  refine ext_geti hl fun i hi => ?_
  have h3 := congrArg (fun l => l[i]?) h
  simp only [nmP, b8, List.getElem?_map, get_geti hi, get_geti (l := e) (i := i) (by omega), Option.map_some] at h3
  have a1 := h1.in_ i hi
  have a2 := h2.in_ i (by omega)
  have h4 := Option.some.inj h3
  generalize geti d (i : Int) = x at a1 h4
  generalize geti e (i : Int) = y at a2 h4
  have e0 : UInt8.ofNat (IntKind.wrap .u8 0).toNat = 0 := by decide
  have e1 : UInt8.ofNat (IntKind.wrap .u8 1).toNat = 1 := by decide
  have e2 : UInt8.ofNat (IntKind.wrap .u8 2).toNat = 2 := by decide
  rcases (show x = 0 ∨ x = 1 ∨ x = 2 by omega) with rfl | rfl | rfl <;> rcases (show y = 0 ∨ y = 1 ∨ y = 2 by omega) with rfl | rfl | rfl <;> first
    | rfl
    | (simp only [e0, e1, e2] at h4; exact absurd h4 (by decide))

/-- One jump. -/
def Jmp (W : Nat) (d e : List Int) : Prop := ∃ a b : Nat, a < d.length ∧ b < d.length ∧ canB W d a b = true ∧ e = doneJ d a b
inductive Rt (W : Nat) : List Int → List Int → Prop
  | refl {d : List Int} : Rt W d d
  | step {d e f : List Int} : Jmp W d e → Rt W e f → Rt W d f

theorem jmp_bd (B : Bd W H c d) (h : Jmp W d e) : Bd W H c e := by
  obtain ⟨a, b, ha, hb, hc, rfl⟩ := h
  obtain ⟨h1, h2⟩ := done_walls B.dm B.wl ha hb hc
  have hlen : (doneJ d a b).length = d.length := by unfold doneJ; simp
  refine ⟨h1, h2, fun i hi => ?_⟩
  rw [hlen] at hi
  have hm : (a + b) / 2 < d.length := by omega
  unfold doneJ
  rw [geti_set' (by omega) (by simp; exact hb), geti_set' (by omega) (by simp; omega), geti_set' (by omega) ha]
  have := B.in_ i hi
  split
  · omega
  · split
    · omega
    · split
      · omega
      · exact this
theorem rt_bd (B : Bd W H c d) (h : Rt W d e) : Bd W H c e := by
  induction h with
  | refl => exact B
  | step h1 _ ih => exact ih (jmp_bd B h1)
theorem can_cells (B : Dm W H d) {a b : Nat} (hc : canB W d a b = true) : ((a + b) / 2 ≠ a ∧ (a + b) / 2 ≠ b ∧ a ≠ b) ∧ geti d (a : Int) = 1 ∧ geti d (((a + b) / 2 : Nat) : Int) = 1 ∧ geti d (b : Int) = 0 := by
  unfold canB at hc
  rw [Bool.and_eq_true] at hc
  obtain ⟨n1, n2, n3⟩ := geo_ne B hc.1
  have hcan := hc.2
  unfold canC midJ at hcan
  simp only [Bool.and_eq_true, beq_iff_eq] at hcan
  have em : ((a : Int) + b) / 2 = (((a + b) / 2 : Nat) : Int) := by omega
  rw [em] at n1 n2 hcan
  exact ⟨by omega, hcan.1.1, hcan.1.2, hcan.2⟩

theorem cnt_set0 {l : List Int} {i : Nat} (h : i < l.length) (h1 : l[i] = 1) : (l.set i 0).count 1 + 1 = l.count 1 := by
  have h2 : 0 < l.count 1 := by
    rw [List.count_pos_iff, ← h1]
    exact List.getElem_mem h
  rw [List.count_set h, h1]
  simp
  omega
theorem cnt_set1 {l : List Int} {i : Nat} (h : i < l.length) (h1 : l[i] = 0) : (l.set i 1).count 1 = l.count 1 + 1 := by
  rw [List.count_set h, h1]
  simp

theorem jmp_cnt (B : Dm W H d) (h : Jmp W d e) : e.count 1 + 1 = d.count 1 := by
  obtain ⟨a, b, ha, hb, hc, rfl⟩ := h
  obtain ⟨⟨n1, n2, n3⟩, c1, c2, c3⟩ := can_cells B hc
  have hm : (a + b) / 2 < d.length := by omega
  unfold doneJ
  generalize (a + b) / 2 = m at n1 n2 c2 hm ⊢
  rw [geti_elem ha] at c1
  rw [geti_elem hm] at c2
  rw [geti_elem hb] at c3
  have k1 := cnt_set0 ha c1
  have k2 := cnt_set0 (l := d.set a 0) (i := m) (by simp; exact hm) (by rw [List.getElem_set_ne (Ne.symm n1)]; exact c2)
  have k3 := cnt_set1 (l := (d.set a 0).set m 0) (i := b) (by simp; exact hb) (by rw [List.getElem_set_ne n2, List.getElem_set_ne n3]; exact c3)
  omega
theorem rt_cnt (B : Bd W H c d) (h : Rt W d e) : e.count 1 ≤ d.count 1 := by
  induction h with
  | refl => exact Nat.le_refl _
  | step h1 _ ih =>
    have := jmp_cnt B.dm h1
    have := ih (jmp_bd B h1)
    omega
end
end Go.Proofs.Ytjfloofoobllaaa
namespace Go.Proofs.Ytjfloofoobllaaa
open Go Go.GL

/-- Just one peg is left, at a place if one is named. -/
def Goal (last : Int) (d : List Int) : Prop := d.count 1 = 1 ∧ (last < 0 ∨ geti d last = 1)

section
variable {W H : Nat} {c d e : List Int}

theorem jumpsL_mem {m : Int × Int × Int} : m ∈ jumpsL W d ↔ ∃ a b : Nat, a < d.length ∧ b < d.length ∧ canB W d a b = true ∧ m = ((a : Int), (b : Int), (0 : Int)) := by
  unfold jumpsL
  simp only [List.mem_flatMap, List.mem_map, List.mem_range, List.mem_filter]
  constructor
  · rintro ⟨a, ha, b, ⟨hb, hc⟩, rfl⟩
    exact ⟨a, b, ha, hb, hc, rfl⟩
  · rintro ⟨a, b, ha, hb, hc, rfl⟩
    exact ⟨a, ha, b, ⟨hb, hc⟩, rfl⟩

/-- What comes of the first i jumps, or of none. -/
def Rt1 (W : Nat) (d : List Int) (l : List (Int × Int × Int)) (e : List Int) : Prop := e = d ∨ ∃ m ∈ l, Rt W (doneJ d m.1.toNat m.2.1.toNat) e

theorem rt1_all : Rt1 W d (jumpsL W d) e ↔ Rt W d e := by
  constructor
  · rintro (rfl | ⟨m, hm, h⟩)
    · exact .refl
    · obtain ⟨a, b, ha, hb, hc, rfl⟩ := jumpsL_mem.1 hm
      exact .step ⟨a, b, ha, hb, hc, rfl⟩ h
  · intro h
    cases h with
    | refl => exact .inl rfl
    | step h1 h2 =>
      obtain ⟨a, b, ha, hb, hc, rfl⟩ := h1
      exact .inr ⟨_, jumpsL_mem.2 ⟨a, b, ha, hb, hc, rfl⟩, h2⟩

theorem least_p {last : Int} : ∀ (k : Nat) (d : List Int), d.count 1 = k → Bd W H c d → (last < 0 ∨ 0 ≤ last ∧ last < d.length) →
    ∃ (n : Nat) (can : Bool), gameroomref_LeastLeft_mF (k + 1) W H d last = some ((n : Int), can) ∧ (∃ e, Rt W d e ∧ e.count 1 = n) ∧ (∀ e, Rt W d e → n ≤ e.count 1) ∧ (can = true ↔ ∃ e, Rt W d e ∧ Goal last e) := by
  intro k
  induction k with
  | zero =>
    intro d hk B hla
    have hl := len_le B.dm
    have hnil : jumpsL W d = [] := by
      rw [List.eq_nil_iff_forall_not_mem]
      intro m hm
      obtain ⟨a, b, ha, hb, hc, rfl⟩ := jumpsL_mem.1 hm
      have := jmp_cnt B.dm ⟨a, b, ha, hb, hc, rfl⟩
      omega
    have hone : ∀ e, Rt W d e → e = d := by
      intro e h
      rcases rt1_all.2 h with h | ⟨m, hm, _⟩
      · exact h
      · rw [hnil] at hm
        cases hm
    refine ⟨0, false, ?_, ⟨d, .refl, hk⟩, fun e h => Nat.zero_le _, ?_⟩
    · show gameroomref_LeastLeft_B _ W H d last = _
      unfold gameroomref_LeastLeft_B
      rw [count_p _ _ 1 (by omega), hk, Option.bind_some, asrt_pos (fun h1 h2 => by simp at h2), JumpsOf_p B.dm, hnil, Option.bind_some]
      have : loop (gameroomref_LeastLeft_L1 (gameroomref_LeastLeft_mF 0) W H d last []) (((0 : Nat) : Int), ((((0 : Nat) : Int) == 1) && (decide (last < 0) || (geti d last == 1))), 0) = some (0, false) := by
        refine loop_done ?_
        simp only [gameroomref_LeastLeft_L1]
        rw [if_neg (by simp)]
        rfl
      rw [this]
      rfl
    · constructor
      · intro h; cases h
      · rintro ⟨e, he, hg⟩
        rw [hone e he] at hg
        have := hg.1
        omega
  | succ k ih =>
    intro d hk B hla
    have hl := len_le B.dm
    have hjl := jumpsL_len B.dm
    have hck := List.count_le_length (a := (1 : Int)) (l := d)
    show ∃ (n : Nat) (can : Bool), gameroomref_LeastLeft_B (gameroomref_LeastLeft_mF (k + 1)) W H d last = some ((n : Int), can) ∧ _
    unfold gameroomref_LeastLeft_B
    rw [count_p _ _ 1 (by omega), hk, Option.bind_some, asrt_pos (fun h1 _ => by
      rw [decide_eq_false_iff_not] at h1
      omega), JumpsOf_p B.dm, Option.bind_some]
    have key := count_loop (step := gameroomref_LeastLeft_L1 (gameroomref_LeastLeft_mF (k + 1)) W H d last (jumpsL W d)) (fun (s : Nat × Bool) (i : Nat) => ((s.1 : Int), s.2, (i : Int)))
      (fun i s => (∃ e, Rt1 W d ((jumpsL W d).take i) e ∧ e.count 1 = s.1) ∧ (∀ e, Rt1 W d ((jumpsL W d).take i) e → s.1 ≤ e.count 1) ∧ (s.2 = true ↔ ∃ e, Rt1 W d ((jumpsL W d).take i) e ∧ Goal last e))
      (fun r => ∃ n : Nat, r.1 = (n : Int) ∧ (∃ e, Rt W d e ∧ e.count 1 = n) ∧ (∀ e, Rt W d e → n ≤ e.count 1) ∧ (r.2 = true ↔ ∃ e, Rt W d e ∧ Goal last e))
      (jumpsL W d).length (k + 1, ((((k + 1 : Nat) : Int) == 1) && (decide (last < 0) || (geti d last == 1)))) (by
        have h0 : ∀ e, Rt1 W d ((jumpsL W d).take 0) e ↔ e = d := fun e => by simp [Rt1]
        refine ⟨⟨d, (h0 d).2 rfl, hk⟩, fun e he => by rw [(h0 e).1 he, hk]; exact Nat.le_refl _, ?_⟩
        simp only [Bool.and_eq_true, beq_iff_eq, Bool.or_eq_true, decide_eq_true_eq]
        constructor
        · rintro ⟨h1, h2⟩
          exact ⟨d, (h0 d).2 rfl, by omega, h2⟩
        · rintro ⟨e, he, hg⟩
          rw [(h0 e).1 he] at hg
          exact ⟨by have := hg.1; omega, hg.2⟩) (by
        rintro i ⟨n, can⟩ hi ⟨⟨e0, r0, q0⟩, hmin, hcan⟩
        left
        simp only at q0 hmin hcan
        have hg : (jumpsL W d)[i]? = some ((jumpsL W d)[i]) := List.getElem?_eq_getElem hi
        obtain ⟨a, b, ha, hb, hc, hm⟩ := jumpsL_mem.1 (List.mem_of_getElem? hg)
        have hj : Jmp W d (doneJ d a b) := ⟨a, b, ha, hb, hc, rfl⟩
        have hcnt := jmp_cnt B.dm hj
        have B2 := jmp_bd B hj
        obtain ⟨n2, can2, l1, l2, l3, l4⟩ := ih (doneJ d a b) (by omega) B2 (by
          have : (doneJ d a b).length = d.length := by unfold doneJ; simp
          rw [this]; exact hla)
        have hstep : ∀ e, Rt1 W d ((jumpsL W d).take (i + 1)) e ↔ Rt1 W d ((jumpsL W d).take i) e ∨ Rt W (doneJ d a b) e := by
          intro e
          unfold Rt1
          rw [List.take_add_one, hg, hm]
          simp only [Option.toList_some, List.mem_append, List.mem_singleton]
          constructor
          · rintro (h | ⟨m, h | rfl, h2⟩)
            · exact .inl (.inl h)
            · exact .inl (.inr ⟨m, h, h2⟩)
            · exact .inr (by simpa using h2)
          · rintro ((h | ⟨m, h, h2⟩) | h)
            · exact .inl h
            · exact .inr ⟨m, .inl h, h2⟩
            · exact .inr ⟨_, .inr rfl, by simpa using h⟩
        simp only [gameroomref_LeastLeft_L1]
        rw [if_pos (by simp; omega)]
        unfold gameroomref_LeastLeft_J2
        rw [asrt_pos (by omega), getd_some hg, hm]
        simp only
        rw [done_p B.dm ha hb, Option.bind_some]
        simp only
        rw [l1, Option.bind_some]
        unfold gameroomref_LeastLeft_J4 gameroomref_LeastLeft_J3
        simp only
        rw [w64_succ (by omega)]
        obtain ⟨e2, r2, q2⟩ := l2
        have hcs : (can || can2) = true ↔ ∃ e, Rt1 W d ((jumpsL W d).take (i + 1)) e ∧ Goal last e := by
          rw [Bool.or_eq_true, hcan, l4]
          constructor
          · rintro (⟨e, h1, h2⟩ | ⟨e, h1, h2⟩)
            · exact ⟨e, (hstep e).2 (.inl h1), h2⟩
            · exact ⟨e, (hstep e).2 (.inr h1), h2⟩
          · rintro ⟨e, h1, h2⟩
            rcases (hstep e).1 h1 with h | h
            · exact .inl ⟨e, h, h2⟩
            · exact .inr ⟨e, h, h2⟩
        by_cases hlt : (n2 : Int) < (n : Int)
        · rw [if_pos (decide_eq_true hlt)]
          refine ⟨(n2, can || can2), rfl, ⟨e2, (hstep e2).2 (.inr r2), q2⟩, fun e he => ?_, hcs⟩
          rcases (hstep e).1 he with h | h
          · have := hmin e h
            simp only; omega
          · exact l3 e h
        · rw [if_neg (by rw [decide_eq_true_eq]; exact hlt)]
          refine ⟨(n, can || can2), rfl, ⟨e0, (hstep e0).2 (.inl r0), q0⟩, fun e he => ?_, hcs⟩
          rcases (hstep e).1 he with h | h
          · exact hmin e h
          · have := l3 e h
            simp only; omega) (by
        rintro ⟨n, can⟩ ⟨⟨e0, r0, q0⟩, hmin, hcan⟩
        simp only [gameroomref_LeastLeft_L1]
        rw [if_neg (by simp)]
        rw [List.take_length] at r0 hmin hcan
        refine ⟨_, rfl, n, rfl, ⟨e0, rt1_all.1 r0, q0⟩, fun e he => hmin e (rt1_all.2 he), ?_⟩
        simp only at hcan ⊢
        rw [hcan]
        constructor
        · rintro ⟨e, h1, h2⟩; exact ⟨e, rt1_all.1 h1, h2⟩
        · rintro ⟨e, h1, h2⟩; exact ⟨e, rt1_all.2 h1, h2⟩)
    obtain ⟨⟨r1, r2⟩, hr, n, h1, h2, h3, h4⟩ := key
    simp only at h1
    subst h1
    refine ⟨n, r2, ?_, h2, h3, h4⟩
    simp only [Int.natCast_zero] at hr
    rw [hr]
    rfl
end
end Go.Proofs.Ytjfloofoobllaaa
namespace Go.Proofs.Ytjfloofoobllaaa
open Go Go.GL

abbrev Jp := Int × Int × Int
abbrev Trd := List (List UInt8 × Bool)
def mvJ (j : Jp) : Jp := (j.1, j.2.2, 0)
/-- What was tried. -/
def Tr (d : List Int) (T : Trd) : Prop := mget false (nmP d) T = true
/-- Jumps, one behind the other. -/
inductive Path (W : Nat) : List Int → List Jp → List Int → Prop
  | nil {d : List Int} : Path W d [] d
  | cons {d e : List Int} {a b : Nat} {js : List Jp} : a < d.length → b < d.length → canB W d a b = true → Path W (doneJ d a b) js e → Path W d (midJ ((a : Int), (b : Int)) :: js) e

section
variable {W H : Nat} {c d e : List Int} {last : Int}

theorem turn_back (D : Dm W H d) {a b : Nat} (ha : a < d.length) (hb : b < d.length) (hc : canB W d a b = true) : pegs_jump_turn_2_m (a : Int) (((a : Int) + b) / 2) b (doneJ d a b) = some d := by
  obtain ⟨⟨n1, n2, n3⟩, c1, c2, c3⟩ := can_cells D hc
  have em : ((a : Int) + b) / 2 = (((a + b) / 2 : Nat) : Int) := by omega
  have hm' : (a + b) / 2 < d.length := by omega
  unfold doneJ
  rw [em]
  generalize (a + b) / 2 = m at n1 n2 c2 hm' ⊢
  have t0 : geti ([(a : Int), (m : Int), (b : Int)] : List Int) ((0 : Nat) : Int) = a := rfl
  have t1 : geti ([(a : Int), (m : Int), (b : Int)] : List Int) ((1 : Nat) : Int) = m := rfl
  have t2 : geti ([(a : Int), (m : Int), (b : Int)] : List Int) ((2 : Nat) : Int) = b := rfl
  generalize hq : ((d.set a 0).set m 0).set b 1 = q
  have hql : q.length = d.length := by rw [← hq]; simp
  have g : ∀ i : Nat, i < d.length → geti q (i : Int) = if i = b then 1 else if i = m then 0 else if i = a then 0 else geti d (i : Int) := fun i hi => by
    rw [← hq, geti_set' (by omega) (by simp; exact hb), geti_set' (by omega) (by simp; exact hm'), geti_set' (by omega) ha]
    simp only [Int.ofNat_inj]
  have s0 : pegs_jump_turn_2_L1 a m b q (q, ((0 : Nat) : Int)) = some (.next (q.set a 1, ((1 : Nat) : Int))) := by
    simp only [pegs_jump_turn_2_L1]
    rw [if_pos (by decide)]
    unfold pegs_jump_turn_2_J2 pegs_jump_turn_2_J3
    rw [t0, asrt_pos (by decide), asrt_pos (by omega), asrt_pos (by omega), g a ha, if_neg n3, if_neg (Ne.symm n1), if_pos rfl, show bXor 0 1 = 1 by decide, Int.toNat_natCast]
    rfl
  have s1 : pegs_jump_turn_2_L1 a m b q (q.set a 1, ((1 : Nat) : Int)) = some (.next ((q.set a 1).set m 1, ((2 : Nat) : Int))) := by
    simp only [pegs_jump_turn_2_L1]
    rw [if_pos (by decide)]
    unfold pegs_jump_turn_2_J2 pegs_jump_turn_2_J3
    rw [t1, asrt_pos (by decide), asrt_pos (by omega), asrt_pos (by omega), geti_set' (by omega) (by omega), if_neg (by omega), g m hm', if_neg n2, if_pos rfl, show bXor 0 1 = 1 by decide, Int.toNat_natCast]
    rfl
  have s2 : pegs_jump_turn_2_L1 a m b q ((q.set a 1).set m 1, ((2 : Nat) : Int)) = some (.next (((q.set a 1).set m 1).set b 0, ((3 : Nat) : Int))) := by
    simp only [pegs_jump_turn_2_L1]
    rw [if_pos (by decide)]
    unfold pegs_jump_turn_2_J2 pegs_jump_turn_2_J3
    rw [t2, asrt_pos (by decide), asrt_pos (by omega), asrt_pos (by omega), geti_set' (by omega) (by rw [List.length_set]; omega), if_neg (by omega), geti_set' (by omega) (by omega), if_neg (by omega), g b hb, if_pos rfl, show bXor 1 1 = 0 by decide, Int.toNat_natCast]
    rfl
  have s3 : pegs_jump_turn_2_L1 a m b q (((q.set a 1).set m 1).set b 0, ((3 : Nat) : Int)) = some (.done (((q.set a 1).set m 1).set b 0)) := by
    simp only [pegs_jump_turn_2_L1]
    exact if_neg (by decide)
  have hend : ((q.set a 1).set m 1).set b 0 = d := by
    refine ext_geti (by simp; exact hql) fun i hi => ?_
    simp only [List.length_set] at hi
    rw [geti_set' (by omega) (by simp; omega), geti_set' (by omega) (by simp; omega), geti_set' (by omega) (by omega), g i (by omega)]
    simp only [Int.ofNat_inj]
    by_cases e1 : i = b
    · subst e1; simp [c3]
    · by_cases e2 : i = m
      · subst e2; simp [e1, c2]
      · by_cases e3 : i = a
        · subst e3; simp [e1, e2, c1]
        · simp [e1, e2, e3]
  unfold pegs_jump_turn_2_m
  have := loop_next' s0 (loop_next' s1 (loop_next' s2 (loop_done s3)))
  rw [show ((0 : Nat) : Int) = 0 from rfl] at this
  rw [this, Option.bind_some, hend]
  rfl

theorem tr_put {T : Trd} (h1 : Bd W H c d) (h2 : Bd W H c e) : Tr e (mput (nmP d) true T) ↔ e = d ∨ Tr e T := by
  unfold Tr
  rw [mget_mput]
  by_cases h : nmP e = nmP d
  · have := nmP_inj h2 h1 h
    subst this
    simp
  · rw [if_neg h]
    constructor
    · exact .inr
    · rintro (rfl | h3)
      · exact absurd rfl h
      · exact h3

/-- What the search asks of each board. -/
theorem ask_p {row : List Jp} {P0 : Nat} (hP : P0 ≤ 7) (all : List Jp) (T : Trd) (l : List Jp) (hll : l.length ≤ 100) (hr : row.length + d.count 1 = P0) (hla : last < 0 ∨ 0 ≤ last ∧ last < d.length) :
    (Goal last d → pegs_Solve_1_m row (P0 : Int) last d all T l = some (true, l ++ row.map mvJ)) ∧ (¬ Goal last d → pegs_Solve_1_m row (P0 : Int) last d all T l = some (false, l)) := by
  unfold pegs_Solve_1_m
  rw [asrt_pos (fun h _ => by rw [decide_eq_true_eq] at h; omega), w64_of (by omega)]
  constructor
  · rintro ⟨g1, g2⟩
    rw [if_neg (by
      simp only [Bool.or_eq_true, bne_iff_ne, Bool.and_eq_true, decide_eq_true_eq]
      rintro (h | ⟨h1, h2⟩)
      · omega
      · rcases g2 with g2 | g2
        · omega
        · exact h2 g2)]
    unfold pegs_Solve_1_J1
    have : loop (pegs_Solve_1_L1 row) (l, 0) = some (l ++ row.map mvJ) := by
      refine loop_from (fun i => (l ++ (row.take i).map mvJ, (i : Int))) row.length (by simp) (fun i hi => ?_) ?_
      · have hg : row[i]? = some row[i] := List.getElem?_eq_getElem hi
        simp only [pegs_Solve_1_L1]
        rw [if_pos (by simp; omega)]
        unfold pegs_Solve_1_J3 pegs_jump_move_m pegs_Solve_1_J4
        rw [asrt_pos (by omega), Option.bind_some, asrt_pos (by unfold bigT; simp; omega), getd_some hg, w64_succ (by omega), List.take_add_one, hg]
        simp only [Option.toList_some, List.map_append, List.map_cons, List.map_nil, List.append_assoc]
        rfl
      · simp only [pegs_Solve_1_L1]
        rw [if_neg (by simp), List.take_length]
    rw [this]
    rfl
  · intro hg
    rw [if_pos]
    simp only [Bool.or_eq_true, bne_iff_ne, Bool.and_eq_true, decide_eq_true_eq]
    by_cases h1 : d.count 1 = 1
    · right
      by_cases h2 : last < 0
      · exact absurd ⟨h1, .inl h2⟩ hg
      · exact ⟨by omega, fun h3 => hg ⟨h1, .inr h3⟩⟩
    · left
      omega

/-- Nothing that is sought comes of a board. -/
def Blk (W : Nat) (last : Int) (d : List Int) : Prop := ∀ y, Rt W d y → ¬ Goal last y

theorem all_jump (B : Bd W H c d) {j : Jp} (hj : j ∈ allJ W H c) (hc : canC d j = true) : ∃ a b : Nat, a < d.length ∧ b < d.length ∧ canB W d a b = true ∧ j = midJ ((a : Int), (b : Int)) := by
  obtain ⟨a, b, ha, hb, hg, _, rfl⟩ := allJ_mem.1 hj
  have := len_nat B.dm
  refine ⟨a, b, by omega, by omega, ?_, rfl⟩
  unfold canB
  rw [hg, hc]
  rfl
theorem jump_all (B : Bd W H c d) (h : Jmp W d e) : ∃ j ∈ allJ W H c, canC d j = true ∧ ∃ a b : Nat, a < d.length ∧ b < d.length ∧ canB W d a b = true ∧ j = midJ ((a : Int), (b : Int)) ∧ e = doneJ d a b := by
  obtain ⟨a, b, ha, hb, hc, rfl⟩ := h
  have hc' := hc
  unfold canB at hc
  rw [Bool.and_eq_true] at hc
  have hl := len_nat B.dm
  have hlw := B.wl.len
  have hmm := mid_in B.dm ha hb
  exact ⟨_, allJ_mem.2 ⟨a, b, by omega, by omega, hc.1, ok_walls B.wl (by omega) (by omega) (by omega) (can_ok hc.2), rfl⟩, hc.2, a, b, ha, hb, hc', rfl, rfl⟩

/-- What a search leaves. -/
structure SEnd (W H : Nat) (c : List Int) (last : Int) (d : List Int) (row : List Jp) (T : Trd) (r : Bool × List Int × Trd × List Jp) : Prop where
  cells : r.2.1 = d
  no : r.1 = false → r.2.2.2 = [] ∧ Blk W last d ∧ (∀ x, Bd W H c x → x.count 1 ≤ d.count 1 → Tr x r.2.2.1 → Blk W last x) ∧ ∀ x, Bd W H c x → d.count 1 < x.count 1 → (Tr x r.2.2.1 ↔ Tr x T)
  yes : r.1 = true → ∃ js e, Path W d js e ∧ Goal last e ∧ r.2.2.2 = (row ++ js).map mvJ

theorem run_p {P0 : Nat} (hP : P0 ≤ 7) (hla : last < 0 ∨ 0 ≤ last ∧ last < c.length) : ∀ (k : Nat) (d : List Int) (T : Trd) (row : List Jp), d.count 1 = k → Bd W H c d → row.length + k = P0 →
    (∀ x, Bd W H c x → x.count 1 ≤ k → Tr x T → Blk W last x) → ∃ r, pegs_search_run_2_mF (k + 1) d (allJ W H c) T row P0 last [] = some r ∧ SEnd W H c last d row T r := by
  intro k
  induction k using Nat.strongRecOn with
  | ind k ih =>
  intro d T row hk B hrow hpre
  have hl := len_le B.dm
  have hlc := B.wl.len
  have hla' : last < 0 ∨ 0 ≤ last ∧ last < d.length := by rw [hlc]; exact hla
  obtain ⟨ask1, ask2⟩ := ask_p (d := d) (last := last) (row := row) hP (allJ W H c) T [] (by simp) (by omega) hla'
  show ∃ r, pegs_search_run_2_B (pegs_search_run_2_mF k) d (allJ W H c) T row P0 last [] = some r ∧ _
  unfold pegs_search_run_2_B
  by_cases hgoal : Goal last d
  · rw [ask1 hgoal, Option.bind_some]
    simp only [if_true]
    exact ⟨_, rfl, rfl, fun h => (by cases h), fun _ => ⟨[], d, .nil, hgoal, by simp⟩⟩
  · rw [ask2 hgoal, Option.bind_some]
    simp only [Bool.false_eq_true, if_false]
    unfold pegs_search_run_2_J1
    rw [name_p _ _ (by omega), Option.bind_some]
    by_cases ht : mget false (nmP d) T = true
    · rw [if_pos ht]
      exact ⟨_, rfl, rfl, fun _ => ⟨rfl, hpre d B (by omega) ht, fun x hx hxk => hpre x hx (by omega), fun x _ _ => Iff.rfl⟩, fun h => (by cases h)⟩
    · rw [if_neg ht]
      unfold pegs_search_run_2_J2
      have hal : (allJ W H c).length ≤ 400 := allJ_len (W := W) (H := H) (c := c) ⟨B.dm.w, B.dm.h, by rw [← B.wl.len]; exact B.dm.len⟩
      have key := count_loop (step := pegs_search_run_2_L1 (pegs_search_run_2_mF k) (allJ W H c) row P0 last) (fun (T1 : Trd) (i : Nat) => (d, T1, ([] : List Jp), (i : Int)))
        (fun i T1 => (∀ x, Bd W H c x → x.count 1 < k → Tr x T1 → Blk W last x) ∧ (∀ x, Bd W H c x → k ≤ x.count 1 → (Tr x T1 ↔ x = d ∨ Tr x T)) ∧ ∀ j ∈ (allJ W H c).take i, ∀ a b : Nat, canB W d a b = true → a < d.length → b < d.length → j = midJ ((a : Int), (b : Int)) → Blk W last (doneJ d a b))
        (fun r => ∃ r', pegs_search_run_2_K1 r = some r' ∧ SEnd W H c last d row T r') (allJ W H c).length (mput (nmP d) true T) ⟨fun x hx hxk h => by
          rcases (tr_put B hx).1 h with rfl | h
          · omega
          · exact hpre x hx (by omega) h, fun x hx _ => tr_put B hx, fun j hj => by simp at hj⟩ (by
          rintro i T1 hi ⟨i1, i2, i3⟩
          have hg : (allJ W H c)[i]? = some ((allJ W H c)[i]) := List.getElem?_eq_getElem hi
          have hmem := List.mem_of_getElem? hg
          have hbd := allJ_bd (n := d.length) (len_nat B.dm) hmem
          simp only [pegs_search_run_2_L1]
          rw [if_pos (by simp; omega)]
          unfold pegs_search_run_2_J4
          rw [asrt_pos (by omega), getd_some hg, can_p rfl hbd.1 hbd.2.1 hbd.2.2, Option.bind_some]
          generalize (allJ W H c)[i] = j at hg hmem hbd
          have htake : ∀ x, x ∈ (allJ W H c).take (i + 1) ↔ x ∈ (allJ W H c).take i ∨ x = j := fun x => by
            rw [List.take_add_one, hg]
            simp
          by_cases hcan : canC d j = true
          · rw [hcan]
            simp only [Bool.not_true, Bool.false_eq_true, if_false]
            obtain ⟨a, b, ha, hb, hc, rfl⟩ := all_jump B hmem hcan
            have hj : Jmp W d (doneJ d a b) := ⟨a, b, ha, hb, hc, rfl⟩
            have hcnt := jmp_cnt B.dm hj
            have B2 := jmp_bd B hj
            unfold pegs_search_run_2_J6
            rw [getd_some hg]
            simp only [midJ]
            rw [turn_p B.dm ha hb hc, Option.bind_some, asrt_pos (by unfold bigT; omega)]
            obtain ⟨k', rfl⟩ : ∃ k', k = k' + 1 := ⟨k - 1, by omega⟩
            obtain ⟨r, r1, r2⟩ := ih k' (by omega) (doneJ d a b) T1 (row ++ [midJ ((a : Int), (b : Int))]) (by omega) B2 (by simp; omega) (fun x hx hxk h => i1 x hx (by omega) h)
            simp only [midJ] at r1
            rw [r1, Option.bind_some, r2.cells, turn_back B.dm ha hb hc, Option.bind_some]
            by_cases hr : r.1 = true
            · right
              rw [if_pos hr]
              refine ⟨_, rfl, _, rfl, rfl, fun h => (by cases h), fun _ => ?_⟩
              obtain ⟨js, e, p1, p2, p3⟩ := r2.yes hr
              exact ⟨_, e, .cons ha hb hc p1, p2, by simp only; rw [p3]; simp [midJ]⟩
            · left
              rw [if_neg hr]
              obtain ⟨q1, q2, q3, q4⟩ := r2.no (Bool.eq_false_iff.2 hr)
              unfold pegs_search_run_2_J5
              rw [w64_succ (by omega), q1]
              refine ⟨r.2.2.1, rfl, fun x hx hxk => q3 x hx (by omega), fun x hx hxk => ?_, fun j hj a' b' hc' ha' hb' he' => ?_⟩
              · rw [q4 x hx (by omega)]
                exact i2 x hx hxk
              · rcases (htake j).1 hj with h | h
                · exact i3 j h a' b' hc' ha' hb' he'
                · rw [he'] at h
                  unfold midJ at h
                  simp only [Prod.mk.injEq] at h
                  obtain rfl : a' = a := by omega
                  obtain rfl : b' = b := by omega
                  exact q2
          · left
            rw [Bool.not_eq_true] at hcan
            rw [hcan]
            simp only [Bool.not_false, if_true]
            unfold pegs_search_run_2_J5
            rw [w64_succ (by omega)]
            refine ⟨T1, rfl, i1, i2, fun j' hj a' b' hc' ha' hb' he' => ?_⟩
            rcases (htake j').1 hj with h | h
            · exact i3 j' h a' b' hc' ha' hb' he'
            · rw [← h, he'] at hcan
              unfold canB at hc'
              rw [Bool.and_eq_true] at hc'
              rw [hc'.2] at hcan
              cases hcan) (by
          rintro T1 ⟨i1, i2, i3⟩
          simp only [pegs_search_run_2_L1]
          rw [if_neg (by simp)]
          refine ⟨_, rfl, _, rfl, rfl, fun _ => ?_, fun h => (by cases h)⟩
          have hblk : Blk W last d := by
            intro y hy
            cases hy with
            | refl => exact hgoal
            | step h1 h2 =>
              obtain ⟨j, hj, _, a, b, ha, hb, hc, rfl, rfl⟩ := jump_all B h1
              exact i3 _ (by rw [List.take_length]; exact hj) a b hc ha hb rfl y h2
          refine ⟨rfl, hblk, fun x hx hxk h => ?_, fun x hx hxk => ?_⟩
          · rcases Nat.lt_or_ge (x.count 1) k with h9 | h9
            · exact i1 x hx h9 h
            · rcases (i2 x hx h9).1 h with rfl | h
              · exact hblk
              · exact hpre x hx (by omega) h
          · rw [i2 x hx (by omega)]
            constructor
            · rintro (rfl | h)
              · omega
              · exact h
            · exact .inr)
      obtain ⟨r, hr, r', k1, k2⟩ := key
      simp only [Int.natCast_zero] at hr
      rw [hr, Option.bind_some]
      exact ⟨r', k1, k2⟩
end
end Go.Proofs.Ytjfloofoobllaaa
namespace Go.Proofs.Ytjfloofoobllaaa
open Go Go.GL

section
variable {W H : Nat} {c d e : List Int} {last : Int}

/-- No row of jumps from a board on is longer than m, those that led to it counted. -/
def Low (W P0 : Nat) (m : Int) (d : List Int) : Prop := ∀ y, Rt W d y → (P0 : Int) - (y.count 1 : Nat) ≤ m

structure FEnd (W H : Nat) (c : List Int) (P0 : Nat) (m0 : Int) (d : List Int) (T : Trd) (r : Bool × List Int × Trd × Int) : Prop where
  no : r.1 = false
  cells : r.2.1 = d
  ge : m0 ≤ r.2.2.2
  is : r.2.2.2 = m0 ∨ ∃ y, Rt W d y ∧ r.2.2.2 = (P0 : Int) - (y.count 1 : Nat)
  low : Low W P0 r.2.2.2 d
  le : ∀ x, Bd W H c x → x.count 1 ≤ d.count 1 → Tr x r.2.2.1 → Low W P0 r.2.2.2 x
  gt : ∀ x, Bd W H c x → d.count 1 < x.count 1 → (Tr x r.2.2.1 ↔ Tr x T)

theorem Low.mono {P0 : Nat} {m m' : Int} (h : Low W P0 m d) (k : m ≤ m') : Low W P0 m' d := fun y hy => Int.le_trans (h y hy) k

theorem run4_p {P0 : Nat} (hP : P0 ≤ 7) : ∀ (k : Nat) (d : List Int) (T : Trd) (row : List Jp) (m0 : Int), d.count 1 = k → Bd W H c d → row.length + k = P0 →
    (∀ x, Bd W H c x → x.count 1 ≤ k → Tr x T → Low W P0 m0 x) → ∃ r, pegs_search_run_4_mF (k + 1) d (allJ W H c) T row m0 = some r ∧ FEnd W H c P0 m0 d T r := by
  intro k
  induction k using Nat.strongRecOn with
  | ind k ih =>
  intro d T row m0 hk B hrow hpre
  have hl := len_le B.dm
  show ∃ r, pegs_search_run_4_B (pegs_search_run_4_mF k) d (allJ W H c) T row m0 = some r ∧ _
  unfold pegs_search_run_4_B pegs_Fewest_1_m
  rw [Option.bind_some]
  simp only [Bool.false_eq_true, if_false]
  have hmx : m0 ≤ maxI m0 (row.length : Int) ∧ (row.length : Int) ≤ maxI m0 (row.length : Int) ∧ (maxI m0 (row.length : Int) = m0 ∨ maxI m0 (row.length : Int) = row.length) := by
    unfold maxI
    split <;> omega
  generalize maxI m0 (row.length : Int) = m1 at hmx
  unfold pegs_search_run_4_J1
  rw [name_p _ _ (by omega), Option.bind_some]
  by_cases ht : mget false (nmP d) T = true
  · rw [if_pos ht]
    have hd := hpre d B (by omega) ht
    have h9 := hd d .refl
    exact ⟨_, rfl, rfl, rfl, by simp only; omega, by simp only; omega, hd.mono (by simp only; omega), fun x hx hxk h => (hpre x hx (by omega) h).mono (by simp only; omega), fun x _ _ => Iff.rfl⟩
  · rw [if_neg ht]
    unfold pegs_search_run_4_J2
    have hal : (allJ W H c).length ≤ 400 := allJ_len (W := W) (H := H) (c := c) ⟨B.dm.w, B.dm.h, by rw [← B.wl.len]; exact B.dm.len⟩
    have key := count_loop (step := pegs_search_run_4_L1 (pegs_search_run_4_mF k) (allJ W H c) row) (fun (s : Trd × Int) (i : Nat) => (d, s.1, s.2, (i : Int)))
      (fun i s => m1 ≤ s.2 ∧ (s.2 = m0 ∨ ∃ y, Rt W d y ∧ s.2 = (P0 : Int) - (y.count 1 : Nat)) ∧ (∀ x, Bd W H c x → x.count 1 < k → Tr x s.1 → Low W P0 s.2 x) ∧ (∀ x, Bd W H c x → k ≤ x.count 1 → (Tr x s.1 ↔ x = d ∨ Tr x T)) ∧ ∀ j ∈ (allJ W H c).take i, ∀ a b : Nat, canB W d a b = true → a < d.length → b < d.length → j = midJ ((a : Int), (b : Int)) → Low W P0 s.2 (doneJ d a b))
      (fun r => ∃ r', pegs_search_run_4_K1 r = some r' ∧ FEnd W H c P0 m0 d T r') (allJ W H c).length (mput (nmP d) true T, m1) ⟨Int.le_refl _, by
        rcases hmx.2.2 with h | h
        · exact .inl h
        · exact .inr ⟨d, .refl, by simp only; omega⟩, fun x hx hxk h => by
        rcases (tr_put B hx).1 h with rfl | h
        · omega
        · exact (hpre x hx (by omega) h).mono (by simp only; omega), fun x hx _ => tr_put B hx, fun j hj => by simp at hj⟩ (by
        rintro i ⟨T1, m⟩ hi ⟨i0, i0', i1, i2, i3⟩
        simp only at i0 i0' i1 i2 i3
        left
        have hg : (allJ W H c)[i]? = some ((allJ W H c)[i]) := List.getElem?_eq_getElem hi
        have hmem := List.mem_of_getElem? hg
        have hbd := allJ_bd (n := d.length) (len_nat B.dm) hmem
        simp only [pegs_search_run_4_L1]
        rw [if_pos (by simp; omega)]
        unfold pegs_search_run_4_J4
        rw [asrt_pos (by omega), getd_some hg, can_p rfl hbd.1 hbd.2.1 hbd.2.2, Option.bind_some]
        generalize (allJ W H c)[i] = j at hg hmem hbd
        have htake : ∀ x, x ∈ (allJ W H c).take (i + 1) ↔ x ∈ (allJ W H c).take i ∨ x = j := fun x => by
          rw [List.take_add_one, hg]
          simp
        by_cases hcan : canC d j = true
        · rw [hcan]
          simp only [Bool.not_true, Bool.false_eq_true, if_false]
          obtain ⟨a, b, ha, hb, hc, rfl⟩ := all_jump B hmem hcan
          have hj : Jmp W d (doneJ d a b) := ⟨a, b, ha, hb, hc, rfl⟩
          have hcnt := jmp_cnt B.dm hj
          have B2 := jmp_bd B hj
          unfold pegs_search_run_4_J6
          rw [getd_some hg]
          simp only [midJ]
          rw [turn_p B.dm ha hb hc, Option.bind_some, asrt_pos (by unfold bigT; omega)]
          obtain ⟨k', rfl⟩ : ∃ k', k = k' + 1 := ⟨k - 1, by omega⟩
          obtain ⟨r, r1, r2⟩ := ih k' (by omega) (doneJ d a b) T1 (row ++ [midJ ((a : Int), (b : Int))]) m (by omega) B2 (by simp; omega) (fun x hx hxk h => i1 x hx (by omega) h)
          simp only [midJ] at r1
          have hge := r2.ge
          rw [r1, Option.bind_some, r2.cells, turn_back B.dm ha hb hc, Option.bind_some, r2.no]
          simp only [Bool.false_eq_true, if_false]
          unfold pegs_search_run_4_J5
          rw [w64_succ (by omega)]
          refine ⟨(r.2.2.1, r.2.2.2), rfl, by simp only; omega, ?_, fun x hx hxk h => r2.le x hx (by omega) h, fun x hx hxk => ?_, fun j hj' a' b' hc' ha' hb' he' => ?_⟩
          · simp only
            rcases r2.is with h | ⟨y, y1, y2⟩
            · rw [h]; exact i0'
            · exact .inr ⟨y, .step hj y1, y2⟩
          · simp only
            rw [r2.gt x hx (by omega)]
            exact i2 x hx hxk
          · rcases (htake j).1 hj' with h | h
            · exact (i3 j h a' b' hc' ha' hb' he').mono hge
            · rw [he'] at h
              unfold midJ at h
              simp only [Prod.mk.injEq] at h
              obtain rfl : a' = a := by omega
              obtain rfl : b' = b := by omega
              exact r2.low
        · rw [Bool.not_eq_true] at hcan
          rw [hcan]
          simp only [Bool.not_false, if_true]
          unfold pegs_search_run_4_J5
          rw [w64_succ (by omega)]
          refine ⟨(T1, m), rfl, i0, i0', i1, i2, fun j' hj a' b' hc' ha' hb' he' => ?_⟩
          rcases (htake j').1 hj with h | h
          · exact i3 j' h a' b' hc' ha' hb' he'
          · rw [← h, he'] at hcan
            unfold canB at hc'
            rw [Bool.and_eq_true] at hc'
            rw [hc'.2] at hcan
            cases hcan) (by
        rintro ⟨T1, m⟩ ⟨i0, i0', i1, i2, i3⟩
        simp only at i0 i0' i1 i2 i3
        simp only [pegs_search_run_4_L1]
        rw [if_neg (by simp)]
        have hlow : Low W P0 m d := by
          intro y hy
          cases hy with
          | refl => omega
          | step h1 h2 =>
            obtain ⟨j, hj, _, a, b, ha, hb, hc, rfl, rfl⟩ := jump_all B h1
            exact i3 _ (by rw [List.take_length]; exact hj) a b hc ha hb rfl y h2
        refine ⟨_, rfl, _, rfl, rfl, rfl, by simp only; omega, i0', hlow, fun x hx hxk h => ?_, fun x hx hxk => ?_⟩
        · rcases Nat.lt_or_ge (x.count 1) k with h9 | h9
          · exact i1 x hx h9 h
          · rcases (i2 x hx h9).1 h with rfl | h
            · exact hlow
            · exact (hpre x hx (by omega) h).mono (by simp only; omega)
        · simp only
          rw [i2 x hx (by omega)]
          constructor
          · rintro (rfl | h)
            · omega
            · exact h
          · exact .inr)
    obtain ⟨r, hr, r', k1, k2⟩ := key
    simp only [Int.natCast_zero] at hr
    rw [hr, Option.bind_some]
    exact ⟨r', k1, k2⟩

theorem newSearch_p (B : Dm W H c) : pegs_newSearch_m W H c = some (c, allJ W H c, []) := by
  have := len_le B
  unfold pegs_newSearch_m slices_Clone_m slices_Clone_J1
  rw [asrt_pos (by unfold bigN; omega), List.nil_append, Option.bind_some, jumps_p B, Option.bind_some]
  rfl

theorem wl_refl (c : List Int) : Wl c c := ⟨rfl, fun _ _ => Iff.rfl⟩

/-- The fewest: both texts. -/
theorem fewest_p (B : Bd W H c c) (hP : c.count 1 ≤ 7) : ∃ n : Int, pegs_Fewest_J1 W H c = some (n, 0) ∧ ∃ can, gameroomref_LeastLeft_m W H c (-1) = some (n, can) := by
  have hl := len_le B.dm
  obtain ⟨r, r1, r2⟩ := run4_p (P0 := c.count 1) hP (c.count 1) c [] [] 0 rfl B (by simp) (fun x _ _ h => by unfold Tr at h; cases h)
  obtain ⟨n, can, l1, ⟨e, l2, l3⟩, l4, _⟩ := least_p (last := -1) (c.count 1) c rfl B (.inl (by decide))
  have hlc := rt_cnt B l2
  unfold pegs_Fewest_J1
  rw [newSearch_p B.dm, Option.bind_some]
  simp only
  rw [pegs_search_run_4_m_of _ _ _ _ _ _ r1, Option.bind_some, many_p _ _ 1 (by omega), Option.bind_some, gameroomref_LeastLeft_m_of _ _ _ _ _ l1]
  have hm : r.2.2.2 = (c.count 1 : Nat) - (n : Int) := by
    have h1 := r2.low e l2
    have h2 := r2.ge
    rcases r2.is with h | ⟨y, y1, y2⟩
    · omega
    · have := l4 y y1
      omega
  rw [hm, w64_of (by omega)]
  exact ⟨n, by congr 2; omega, can, rfl⟩

/-- A way found is one. -/
theorem path_law {l0 : List Jp} {js : List Jp} (hp : Path W d js e) : ∀ (i : Nat), Bd W H c d → l0.drop i = js.map mvJ → l0.length ≤ 100 →
    loop (gameroomlaw_PegsSolves_L1 (l0, 0)) ((W : Int), (H : Int), d, (i : Int)) = some (.go ((W : Int), (H : Int), e)) := by
  induction hp with
  | nil =>
    intro i B hd hl
    rw [List.map_nil, List.drop_eq_nil_iff] at hd
    refine loop_done ?_
    simp only [gameroomlaw_PegsSolves_L1]
    rw [if_neg (by simp; omega)]
  | @cons d e a b js ha hb hc _ ih =>
    intro i B hd hl
    have hi : i < l0.length := by
      rcases Nat.lt_or_ge i l0.length with h | h
      · exact h
      · rw [List.drop_eq_nil_of_le h] at hd; cases hd
    have hg : l0[i]? = some ((a : Int), (b : Int), (0 : Int)) := by
      have := congrArg (fun l => l[0]?) hd
      simpa [mvJ, midJ] using this
    have hd2 : l0.drop (i + 1) = js.map mvJ := by
      have := congrArg List.tail hd
      rw [List.tail_drop] at this
      simpa using this
    refine loop_next' (s' := ((W : Int), (H : Int), doneJ d a b, ((i + 1 : Nat) : Int))) ?_ (ih (i + 1) (jmp_bd B ⟨a, b, ha, hb, hc, rfl⟩) hd2 hl)
    simp only [gameroomlaw_PegsSolves_L1]
    rw [if_pos (by simp; omega)]
    unfold gameroomlaw_PegsSolves_J8
    rw [asrt_pos (by simp; omega), asrt_pos (fun _ => by simp; omega), asrt_pos (fun _ => by simp; omega), getd_some hg]
    simp only
    rw [if_pos (by simp), jumpCan_in B.dm ha hb, Option.bind_some, hc, if_neg (by simp)]
    unfold gameroomlaw_PegsSolves_J10
    rw [asrt_pos (by simp; omega), getd_some hg]
    simp only
    rw [done_p B.dm ha hb, Option.bind_some]
    unfold gameroomlaw_PegsSolves_J9
    rw [w64_succ (by omega)]
    rfl

theorem path_cnt {js : List Jp} (hp : Path W d js e) : ∀ (_ : Bd W H c d), js.length + e.count 1 = d.count 1 := by
  induction hp with
  | nil => intro _; simp
  | @cons d e a b js ha hb hc _ ih =>
    intro B
    have hj : Jmp W d (doneJ d a b) := ⟨a, b, ha, hb, hc, rfl⟩
    have h1 := jmp_cnt B.dm hj
    have h2 := ih (jmp_bd B hj)
    rw [List.length_cons]
    omega
theorem path_rt {js : List Jp} (hp : Path W d js e) : Rt W d e := by
  induction hp with
  | nil => exact .refl
  | cons ha hb hc _ ih => exact .step ⟨_, _, ha, hb, hc, rfl⟩ ih

/-- One peg left: both texts. -/
theorem solve_law (B : Bd W H c c) (hP : c.count 1 ≤ 7) (hla : last < 0 ∨ 0 ≤ last ∧ last < c.length) : ∃ r : List Jp × Int, pegs_Solve_J1 W H c last = some r ∧ gameroomlaw_PegsSolves_J5 W H c last r = some true := by
  have hl := len_le B.dm
  obtain ⟨r, r1, r2⟩ := run_p (last := last) (P0 := c.count 1) hP hla (c.count 1) c [] [] rfl B (by simp) (fun x _ _ h => by unfold Tr at h; cases h)
  obtain ⟨n, can, l1, _, _, l4⟩ := least_p (last := last) (c.count 1) c rfl B hla
  unfold pegs_Solve_J1
  rw [newSearch_p B.dm, Option.bind_some, many_p _ _ 1 (by omega), Option.bind_some]
  simp only
  rw [pegs_search_run_2_m_of _ _ _ _ _ _ _ _ r1, Option.bind_some]
  unfold gameroomlaw_PegsSolves_J5
  rw [gameroomref_LeastLeft_m_of _ _ _ _ _ l1]
  simp only [Option.bind_some]
  by_cases hr : r.1 = true
  · obtain ⟨js, e, p1, p2, p3⟩ := r2.yes hr
    have hc9 : can = true := l4.2 ⟨e, path_rt p1, p2⟩
    rw [hr, hc9]
    simp only [Bool.not_true, Bool.false_eq_true, if_false]
    unfold pegs_Solve_J2
    refine ⟨_, rfl, ?_⟩
    unfold gameroomlaw_PegsSolves_J6 gameroomref_GridOf_m gameroomref_Ints_m
    rw [asrt_pos (by unfold bigN; omega), List.nil_append]
    simp only [Option.bind_some]
    rw [p3, List.nil_append]
    have hjs := path_cnt (c := c) p1 B
    have := path_law (l0 := js.map mvJ) p1 0 B (by simp) (by simp; omega)
    rw [show (((0 : Nat) : Int)) = 0 from rfl] at this
    rw [this, Option.bind_some]
    unfold gameroomlaw_PegsSolves_K1 gameroomlaw_PegsSolves_J7
    have Be := rt_bd B (path_rt p1)
    have hle := len_le Be.dm
    have hlen := Be.wl.len
    simp only [beq_self_eq_true, if_true]
    rw [count_p _ _ 1 (by omega), Option.bind_some, p2.1, asrt_pos (fun h1 _ => by rw [decide_eq_false_iff_not] at h1; omega)]
    congr 1
    rcases p2.2 with h | h
    · simp [h]
    · simp [h]
  · have hno := r2.no (Bool.eq_false_iff.2 hr)
    have hc9 : can = false := by
      rw [Bool.eq_false_iff]
      intro h
      obtain ⟨e, h1, h2⟩ := l4.1 h
      exact hno.2.1 e h1 h2
    rw [Bool.eq_false_iff.2 hr, hc9]
    exact ⟨_, rfl, rfl⟩
end

theorem true_PegsSolves (g1 g2 : Int) (c : List Int) (last : Int) (_hw : inI g1) (_hh : inI g2) (hl : c.length ≤ 17592186043904) (_hy : ∀ y ∈ c, inI y) (_h1 : inI last) : gameroomlaw_PegsSolves_m g1 g2 c last = some true := by
  have hl' : c.length ≤ 17592186044416 := by omega
  have hgo : gameroomref_GridOf_m g1 g2 c = some (g1, g2, c) := by
    unfold gameroomref_GridOf_m gameroomref_Ints_m
    rw [asrt_pos (by unfold bigN; omega), Option.bind_some, List.nil_append]
  unfold gameroomlaw_PegsSolves_m pegs_Solve_m pegs_Fewest_m
  rw [hgo]
  simp only [Option.bind_some]
  rw [may_p g1 g2 hl', gridMay_eq g1 g2 hl']
  simp only [Option.bind_some]
  by_cases h1 : okG g1 g2 c = true
  · have B0 := okG_dm h1
    have hsm := B0.small
    rw [h1]
    simp only [Bool.not_true, Bool.false_eq_true, if_false]
    obtain ⟨W, rfl⟩ : ∃ W : Nat, g1 = W := ⟨g1.toNat, by have := B0.w; omega⟩
    obtain ⟨H, rfl⟩ : ∃ H : Nat, g2 = H := ⟨g2.toNat, by have := B0.h; omega⟩
    have B : Bd W H c c := ⟨wl_refl c, B0, fun i hi => okG_in h1 i hi⟩
    obtain ⟨gb, q1, q2, q3⟩ := great_both W H (d := c) (by omega)
    rw [q1]
    simp only [Option.bind_some]
    -- is the place one of the board's holes
    have hcond : ∀ x : Bool, x = ((last == (-1)) || (((decide ((0 : Int) ≤ last)) && (decide (last < (c.length : Int)))) && ((geti c last) != 2))) → (((decide (last < (-1))) || (decide ((c.length : Int) ≤ last))) || ((decide ((0 : Int) ≤ last)) && ((geti c last) == 2))) = !x := by
      rintro x rfl
      rw [Bool.eq_iff_iff]
      simp only [Bool.or_eq_true, Bool.and_eq_true, decide_eq_true_eq, beq_iff_eq, Bool.not_eq_true', Bool.or_eq_false_iff, beq_eq_false_iff_ne, Bool.and_eq_false_iff, decide_eq_false_iff_not, bne_eq_false_iff_eq]
      omega
    generalize hx : ((last == (-1)) || (((decide ((0 : Int) ≤ last)) && (decide (last < (c.length : Int)))) && ((geti c last) != 2))) = x at hcond
    rw [hcond x rfl, asrt_pos (fun a1 a2 => by
      rw [decide_eq_true_eq] at a1
      rw [Bool.or_eq_false_iff, decide_eq_false_iff_not, decide_eq_false_iff_not] at a2
      omega)]
    have hJ1 : ∀ r2 r4, gameroomlaw_PegsSolves_J1 W H c last r2 r4 = if gb = true then (if ((x && (r2.2 != 2)) || ((!x) && (r2.2 != 3))) then some false else gameroomlaw_PegsSolves_J3 r2 r4) else gameroomlaw_PegsSolves_J2 W H c last r2 r4 := fun r2 r4 => by
      unfold gameroomlaw_PegsSolves_J1
      rw [asrt_pos (fun a1 _ => by
        rw [Bool.and_eq_true, decide_eq_true_eq, decide_eq_true_eq] at a1
        exact a1), q2, Option.bind_some, hx]
      cases gb <;> rfl
    cases x with
    | false =>
      simp only [Bool.not_false, if_true, Option.bind_some]
      cases gb with
      | true =>
        simp only [if_true, Option.bind_some]
        rw [hJ1]
        rfl
      | false =>
        simp only [Bool.false_eq_true, if_false]
        obtain ⟨n, f1, can, f2⟩ := fewest_p B (q3 rfl)
        rw [f1, Option.bind_some, hJ1]
        simp only [Bool.false_eq_true, if_false]
        unfold gameroomlaw_PegsSolves_J2
        rw [f2, Option.bind_some, if_neg (by simp)]
        unfold gameroomlaw_PegsSolves_J4
        rw [hx]
        rfl
    | true =>
      simp only [Bool.not_true, Bool.false_eq_true, if_false]
      cases gb with
      | true =>
        simp only [if_true, Option.bind_some]
        rw [hJ1]
        rfl
      | false =>
        simp only [Bool.false_eq_true, if_false]
        have hla : last < 0 ∨ 0 ≤ last ∧ last < c.length := by
          rw [Bool.or_eq_true, beq_iff_eq, Bool.and_eq_true, Bool.and_eq_true, decide_eq_true_eq, decide_eq_true_eq] at hx
          omega
        obtain ⟨r, s1, s2⟩ := solve_law B (q3 rfl) hla
        obtain ⟨n, f1, can, f2⟩ := fewest_p B (q3 rfl)
        rw [s1, Option.bind_some, f1, Option.bind_some, hJ1]
        simp only [Bool.false_eq_true, if_false]
        unfold gameroomlaw_PegsSolves_J2
        rw [f2, Option.bind_some, if_neg (by simp)]
        unfold gameroomlaw_PegsSolves_J4
        rw [hx]
        simp only [Bool.not_true, Bool.false_eq_true, if_false]
        exact s2
  · rw [Bool.not_eq_true] at h1
    rw [h1]
    rfl
end Go.Proofs.Ytjfloofoobllaaa
