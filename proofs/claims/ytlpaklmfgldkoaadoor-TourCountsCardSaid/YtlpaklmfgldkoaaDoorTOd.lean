/-
  Tours: the greedy way.
-/
import Derived.Test.YtlpaklmfgldkoaaDoorTOc
import Derived.Test.YtlpaklmfgldkoaaDoorLibE
namespace Go.Proofs.YtlpaklmfgldkoaaDoor
open Go Go.GL

theorem nodup_len {l : List Int} {L : Nat} (h : l.Nodup) (hb : ∀ q ∈ l, ∃ b : Nat, b < L ∧ q = b) : l.length ≤ L := by
  have e : sortI l = ((List.range L).filter (fun (b : Nat) => decide ((b : Int) ∈ l))).map (fun (b : Nat) => (b : Int)) := by
    refine strict_ext (sortI_lt h) (filt_lt _ _) fun q => ?_
    rw [sortI_mem, List.mem_map]
    constructor
    · intro hq
      obtain ⟨b, h1, rfl⟩ := hb q hq
      exact ⟨b, by rw [List.mem_filter, List.mem_range, decide_eq_true_eq]; exact ⟨h1, hq⟩, rfl⟩
    · rintro ⟨b, h1, rfl⟩
      rw [List.mem_filter, decide_eq_true_eq] at h1
      exact h1.2
  have := congrArg List.length e
  rw [sortI_length, List.length_map] at this
  rw [this]
  refine Nat.le_trans (List.length_filter_le _ _) ?_
  rw [List.length_range]
  exact Nat.le_refl _

theorem filt_in {way : List Int} {x : Int} (h : x ∈ way) : List.filter (fun x => decide (x ∉ way)) [x] = [] := by simp [h]
theorem filt_out {way : List Int} {x : Int} (h : x ∉ way) : List.filter (fun x => decide (x ∉ way)) [x] = [x] := by simp [h]

section
variable {w h : Nat}

/-- Free places next to one. -/
def freeK (w N : Nat) (way : List Int) (a : Nat) : List Int := (knb w N a).filter (fun x => decide (x ∉ way))

structure Tab (N : Nat) (way : List Int) (seen : List Bool) : Prop where
  len : seen.length = N
  bit : ∀ b : Nat, b < N → getb seen (b : Int) = decide ((b : Int) ∈ way)

theorem getb_nat (l : List Bool) (k : Nat) : getb l (k : Int) = l.getD k false := by simp [getb]

/-- What DeleteFunc leaves in front. -/
theorem del_p {N : Nat} {way : List Int} {seen : List Bool} (T : Tab N way seen) {s : List Int} (hs : ∀ x ∈ s, ∃ b : Nat, b < N ∧ x = (b : Int)) (hl : s.length ≤ 1000) : ∃ i2 s2, slices_DeleteFunc_2_m s seen = some (i2, s2) ∧ cut s2 0 i2 = s.filter (fun x => decide (x ∉ way)) := by
  have hb : ∀ x ∈ s, tour_Greedy_1_1_m x seen = some (decide (x ∈ way)) := fun x hx => by
    obtain ⟨b, h1, rfl⟩ := hs x hx
    unfold tour_Greedy_1_1_m
    rw [T.len, asrt_pos (by omega), T.bit b h1]
  have hidx : slices_IndexFunc_m s seen = some (fidx (fun x => decide (x ∈ way)) s) := by
    unfold slices_IndexFunc_m
    rw [search_loop (l := s) (fun x => decide (x ∈ way)) (fun i => Fl.ret (i : Int)) (Fl.go ()) ?_ ?_ ?_]
    · unfold fidx
      cases s.findIdx? (fun x => decide (x ∈ way)) <;> rfl
    · intro i x hx hp
      have hbd := idx_bd hx
      simp only [slices_IndexFunc_L1, slices_IndexFunc_J2]
      rw [if_pos (by simpa using hbd.2), asrt_pos hbd, geti_some hx, hb x (List.mem_of_getElem? hx), Option.bind_some]
      exact if_pos hp
    · intro i x hx hp
      have hbd := idx_bd hx
      simp only [slices_IndexFunc_L1, slices_IndexFunc_J2]
      rw [if_pos (by simpa using hbd.2), asrt_pos hbd, geti_some hx, hb x (List.mem_of_getElem? hx), Option.bind_some, if_neg (by rw [hp]; decide)]
      simp only [slices_IndexFunc_J3]
      rw [w64_succ (by omega)]
    · simp only [slices_IndexFunc_L1]
      rw [if_neg (by simp)]
  unfold slices_DeleteFunc_2_m
  rw [hidx, Option.bind_some]
  cases hf : s.findIdx? (fun x => decide (x ∈ way)) with
  | none =>
    have e : fidx (fun x => decide (x ∈ way)) s = -1 := by unfold fidx; rw [hf]
    rw [e, if_pos (by decide)]
    refine ⟨_, _, rfl, ?_⟩
    have hall := List.findIdx?_eq_none_iff.1 hf
    rw [List.filter_eq_self.2 (fun x hx => by
      have := hall x hx
      simpa using this)]
    simp [cut]
  | some i0 =>
    have e : fidx (fun x => decide (x ∈ way)) s = (i0 : Int) := by unfold fidx; rw [hf]
    obtain ⟨hi0, hp0, hmin⟩ := List.findIdx?_eq_some_iff_getElem.1 hf
    rw [e, if_neg (by rw [beq_iff_eq]; omega)]
    unfold slices_DeleteFunc_2_J1
    have hfil0 : (s.take (i0 + 1)).filter (fun x => decide (x ∉ way)) = s.take i0 := by
      rw [List.take_succ_eq_append_getElem hi0, List.filter_append]
      have h1 : (s.take i0).filter (fun x => decide (x ∉ way)) = s.take i0 := List.filter_eq_self.2 (fun x hx => by
        obtain ⟨j, hj, rfl⟩ := List.getElem_of_mem hx
        rw [List.length_take] at hj
        rw [List.getElem_take]
        have := hmin j (by omega)
        simpa using this)
      rw [h1]
      have : List.filter (fun x => decide (x ∉ way)) [s[i0]] = [] := by
        have := hp0
        simp at this
        simp [this]
      rw [this, List.append_nil]
    have key := count_loop (step := slices_DeleteFunc_2_L1 s seen) (mk := fun (st : List Int × Nat) (j : Nat) => (st.1, (st.2 : Int), ((i0 + 1 + j : Nat) : Int)))
      (I := fun j st => st.1.length = s.length ∧ st.2 ≤ i0 + j ∧ st.1.take st.2 = (s.take (i0 + 1 + j)).filter (fun x => decide (x ∉ way)) ∧ st.2 = ((s.take (i0 + 1 + j)).filter (fun x => decide (x ∉ way))).length ∧ ∀ k : Nat, i0 + 1 + j ≤ k → k < s.length → geti st.1 (k : Int) = geti s (k : Int))
      (Post := fun r => ∃ st : List Int × Nat, r = (st.1, (st.2 : Int)) ∧ st.1.length = s.length ∧ st.2 ≤ s.length ∧ st.1.take st.2 = s.filter (fun x => decide (x ∉ way)))
      (s.length - (i0 + 1)) (s, i0) ⟨rfl, by omega, by rw [Nat.add_zero, hfil0], by rw [Nat.add_zero, hfil0, List.length_take]; omega, fun k _ _ => rfl⟩ (by
        rintro j ⟨s3, i1⟩ hj ⟨h1, h2, h3, h4, h5⟩
        left
        simp only at h1 h2 h3 h4 h5
        have hjl : i0 + 1 + j < s.length := by omega
        have hg := get_geti hjl
        have hval := h5 (i0 + 1 + j) (Nat.le_refl _) hjl
        simp only [slices_DeleteFunc_2_L1]
        rw [if_pos (decide_eq_true (by omega))]
        unfold slices_DeleteFunc_2_J3 slices_DeleteFunc_2_J4
        rw [asrt_pos (by omega), hval, hb _ (List.mem_of_getElem? hg), Option.bind_some, w64_of (x := ((i0 + 1 + j : Nat) : Int) + 1) (by omega)]
        have htk : s.take (i0 + 1 + (j + 1)) = s.take (i0 + 1 + j) ++ [geti s ((i0 + 1 + j : Nat) : Int)] := take_nextI hjl
        by_cases hin : geti s ((i0 + 1 + j : Nat) : Int) ∈ way
        · rw [if_neg (by rw [decide_eq_true hin]; decide)]
          refine ⟨(s3, i1), rfl, h1, by omega, ?_, ?_, fun k hk hk2 => h5 k (by omega) hk2⟩
          · rw [htk, List.filter_append, filt_in hin, List.append_nil]
            exact h3
          · rw [htk, List.filter_append, filt_in hin, List.append_nil]
            exact h4
        · rw [if_pos (by rw [decide_eq_false hin]; rfl), asrt_pos (by omega), w64_of (x := (i1 : Int) + 1) (by omega), Int.toNat_natCast]
          refine ⟨(s3.set i1 (geti s ((i0 + 1 + j : Nat) : Int)), i1 + 1), rfl, by rw [List.length_set]; exact h1, by omega, ?_, ?_, fun k hk hk2 => ?_⟩
          · rw [htk, List.filter_append, filt_out hin, ← h3]
            show (s3.set i1 _).take (i1 + 1) = _
            rw [List.take_succ_eq_append_getElem (by rw [List.length_set]; omega), List.take_set_of_le (Nat.le_refl _), List.getElem_set_self]
          · rw [htk, List.filter_append, filt_out hin, List.length_append, ← h4]
            rfl
          · show geti (s3.set i1 _) (k : Int) = _
            generalize geti s ((i0 + 1 + j : Nat) : Int) = v9
            have e2 : geti (s3.set i1 v9) (k : Int) = geti s3 (k : Int) := by
              rw [geti_nat, geti_nat, List.getD_eq_getElem?_getD, List.getD_eq_getElem?_getD, List.getElem?_set_ne (by omega)]
            rw [e2]
            exact h5 k (by omega) hk2) (by
        rintro ⟨s3, i1⟩ ⟨h1, h2, h3, h4, h5⟩
        simp only at h1 h2 h3 h4 h5
        have en : i0 + 1 + (s.length - (i0 + 1)) = s.length := by omega
        refine ⟨(s3, (i1 : Int)), ?_, (s3, i1), rfl, h1, ?_, ?_⟩
        · simp only [slices_DeleteFunc_2_L1]
          rw [en, if_neg (by simp)]
        · rw [h4, en, List.take_length]
          exact List.length_filter_le _ _
        · rw [h3, en, List.take_length])
    obtain ⟨r, er, ⟨s3, i1⟩, rfl, h1, h2, h3⟩ := key
    simp only at h1 h2 h3
    have er' : loop (slices_DeleteFunc_2_L1 s seen) (s, (i0 : Int), w64 ((i0 : Int) + 1)) = some (s3, (i1 : Int)) := by
      rw [w64_of (by omega)]
      exact er
    rw [er', Option.bind_some]
    simp only [slices_DeleteFunc_2_K1]
    unfold slices_DeleteFunc_2_J2
    rw [asrt_pos (by omega), asrt_pos (by omega)]
    refine ⟨_, _, rfl, ?_⟩
    rw [Int.toNat_natCast]
    have e3 : ∀ z : List Int, cut (putL s3 i1 z) 0 (i1 : Int) = s3.take i1 := fun z => by
      have hl9 : (s3.take i1).length = i1 := by rw [List.length_take]; omega
      unfold cut putL
      rw [show ((i1 : Int) - 0).toNat = i1 by omega, show (0 : Int).toNat = 0 from rfl, List.drop_zero, List.append_assoc]
      exact List.take_left' hl9
    rw [e3, h3]

theorem free_p (hw : 1 ≤ w ∧ w ≤ 8) (hh : 1 ≤ h ∧ h ≤ 8) {way : List Int} {seen : List Bool} (T : Tab (w * h) way seen) {a : Nat} (ha : a < w * h) : tour_Greedy_1_m a (field w h) seen = some (freeK w (w * h) way a) := by
  have hN := wh64 hw hh
  have hl := knb_len (w := w) (N := w * h) (p := a)
  obtain ⟨i2, s2, e1, e2⟩ := del_p T (s := knb w (w * h) a) (fun x hx => by
    obtain ⟨b, h1, h2, _⟩ := knb_mem.1 hx
    exact ⟨b, h1, h2⟩) (by omega)
  unfold tour_Greedy_1_m slices_Clone_m slices_Clone_J1
  rw [field_len, asrt_pos (by omega), field_row ha, asrt_pos (by unfold bigN; omega), List.nil_append, Option.bind_some, e1, Option.bind_some, e2]
  rfl

theorem free_len {N : Nat} {way : List Int} {a : Nat} : (freeK w N way a).length ≤ N := Nat.le_trans (List.length_filter_le _ _) knb_len
theorem free_mem {N : Nat} {way : List Int} {a : Nat} {x : Int} : x ∈ freeK w N way a ↔ (∃ b : Nat, b < N ∧ x = b ∧ stepB w a b = true) ∧ x ∉ way := by
  unfold freeK
  rw [List.mem_filter, knb_mem, decide_eq_true_eq]

/-- The better of two. -/
def sel (w N : Nat) (way : List Int) (m x : Int) : Int := if (freeK w N way x.toNat).length < (freeK w N way m.toNat).length then x else m

theorem min_p (hw : 1 ≤ w ∧ w ≤ 8) (hh : 1 ≤ h ∧ h ≤ 8) {way : List Int} {seen : List Bool} (T : Tab (w * h) way seen) {l : List Int} (hl : l.length ≤ 100) (hm : ∀ x ∈ l, ∃ b : Nat, b < w * h ∧ x = (b : Int)) {x0 : Int} {rest : List Int} (e : l = x0 :: rest) : slices_MinFunc_m l (field w h) seen = some (rest.foldl (sel w (w * h) way) x0) := by
  have hN := wh64 hw hh
  have h0 : geti l 0 = x0 := by rw [e]; rfl
  have hin : ∀ i, i ≤ rest.length → (rest.take i).foldl (sel w (w * h) way) x0 ∈ l := fun i => by
    induction i with
    | zero => intro _; rw [e]; simp
    | succ i ih =>
      intro hi
      have hi' : i < rest.length := hi
      rw [take_nextI hi', List.foldl_append]
      show sel _ _ _ _ _ ∈ _
      unfold sel
      split
      · rw [e]
        exact List.mem_cons_of_mem _ (List.mem_of_getElem? (get_geti hi'))
      · exact ih (by omega)
  unfold slices_MinFunc_m slices_MinFunc_J1
  rw [if_neg (by rw [e, decide_eq_true_eq, List.length_cons]; omega), asrt_pos (by rw [e, List.length_cons]; omega), h0]
  have hloop : loop (slices_MinFunc_L1 l (field w h) seen) (x0, 1) = some (rest.foldl (sel w (w * h) way) x0) := by
    refine loop_from (f := fun i => ((rest.take i).foldl (sel w (w * h) way) x0, ((i + 1 : Nat) : Int))) rest.length (by rfl) (fun i hi => ?_) ?_
    · have hll : l.length = rest.length + 1 := by rw [e]; rfl
      have hgi : geti l ((i + 1 : Nat) : Int) = geti rest (i : Int) := by
        rw [e, geti_nat, geti_nat]; rfl
      obtain ⟨a, ha1, ha2⟩ := hm _ (hin i (by omega))
      obtain ⟨b, hb1, hb2⟩ := hm (geti rest (i : Int)) (by rw [e]; exact List.mem_cons_of_mem _ (List.mem_of_getElem? (get_geti hi)))
      have l1 := free_len (w := w) (N := w * h) (way := way) (a := a)
      have l2 := free_len (w := w) (N := w * h) (way := way) (a := b)
      simp only [slices_MinFunc_L1]
      rw [if_pos (decide_eq_true (by omega))]
      unfold slices_MinFunc_J3 slices_MinFunc_J4 tour_Greedy_2_m tour_Greedy_2_J1
      rw [asrt_pos (by omega), asrt_pos (by omega), hgi, take_nextI hi, List.foldl_append, hb2, ha2, free_p hw hh T hb1, Option.bind_some, free_p hw hh T ha1, Option.bind_some, Option.bind_some, w64_of (by omega), w64_of (by omega)]
      show _ = some (St.next (sel w (w * h) way (a : Int) (b : Int), _))
      unfold sel
      rw [Int.toNat_natCast, Int.toNat_natCast]
      by_cases hlt : (freeK w (w * h) way b).length < (freeK w (w * h) way a).length
      · rw [if_pos (decide_eq_true (by omega)), if_pos hlt]; rfl
      · rw [if_neg (by rw [decide_eq_true_eq]; omega), if_neg hlt]; rfl
    · simp only [slices_MinFunc_L1]
      rw [if_neg (by rw [e]; simp), List.take_length]
  rw [hloop]
  rfl

/-! ### The document's choice -/
theorem deg_r (hw : 1 ≤ w ∧ w ≤ 8) (hh : 1 ≤ h ∧ h ≤ 8) {way : List Int} (hl : way.length ≤ 1000) {a : Nat} (ha : a < w * h) : loop (gameroomref_KnightGreedy_L3 w h way a) (0, 0) = some ((freeK w (w * h) way a).length : Int) := by
  have hN := wh64 hw hh
  refine loop_from (f := fun k => (((((((List.range k).filter (fun b => stepB w a b)).map (fun (b : Nat) => (b : Int))).filter (fun x => decide (x ∉ way))).length : Nat) : Int), (k : Int))) (w * h) (by rfl) (fun k hk => ?_) ?_
  · have hle : ((((List.range k).filter (fun b => stepB w a b)).map (fun (b : Nat) => (b : Int))).filter (fun x => decide (x ∉ way))).length ≤ k := by
      refine Nat.le_trans (List.length_filter_le _ _) ?_
      rw [List.length_map]
      exact Nat.le_trans (List.length_filter_le _ _) (by rw [List.length_range]; exact Nat.le_refl _)
    simp only [gameroomref_KnightGreedy_L3]
    rw [w64_wh hw hh, if_pos (decide_eq_true (by omega))]
    unfold gameroomref_KnightGreedy_J6 gameroomref_KnightGreedy_J7
    rw [step_r hw (by omega) (by omega), Option.bind_some, w64_of (x := (k : Int) + 1) (by omega), List.range_succ, List.filter_append, List.map_append, List.filter_append]
    cases hb : stepB w a k with
    | false =>
      rw [if_neg (by decide), Option.bind_some, if_neg (by simp), show List.filter (fun b => stepB w a b) [k] = [] by simp [hb]]
      simp
    | true =>
      obtain ⟨v, hv, hvi⟩ := at_r (l := way) (k : Int) (by omega)
      rw [if_pos rfl, hv, Option.bind_some, show List.filter (fun b => stepB w a b) [k] = [k] by simp [hb], List.length_append]
      by_cases hin : (k : Int) ∈ way
      · rw [if_neg (by simp; exact hvi.2 hin)]
        simp [hin]
      · have hv0 : v < 0 := by
          have : ¬ 0 ≤ v := fun q => hin (hvi.1 q)
          omega
        rw [if_pos (by simp; exact hv0), w64_of (by omega)]
        simp [hin]
  · simp only [gameroomref_KnightGreedy_L3]
    rw [w64_wh hw hh, if_neg (by simp)]
    rfl

def selR (w N : Nat) (way : List Int) (s : Int × Int) (x : Int) : Int × Int := if ((freeK w N way x.toNat).length : Int) < s.2 then (x, ((freeK w N way x.toNat).length : Int)) else s

theorem pick_r (hw : 1 ≤ w ∧ w ≤ 8) (hh : 1 ≤ h ∧ h ≤ 8) {way : List Int} (hl : way.length ≤ 1000) (hpos : 1 ≤ way.length) {p : Nat} (hp : p < w * h) (hlast : geti way ((way.length - 1 : Nat) : Int) = (p : Int)) : loop (gameroomref_KnightGreedy_L2 w h way) ((-1), 100, 0) = some ((freeK w (w * h) way p).foldl (selR w (w * h) way) (-1, 100)).1 := by
  have hN := wh64 hw hh
  let F : Nat → Int × Int := fun i => ((((List.range i).filter (fun b => stepB w p b)).map (fun (b : Nat) => (b : Int))).filter (fun x => decide (x ∉ way))).foldl (selR w (w * h) way) (-1, 100)
  refine loop_from (f := fun i => ((F i).1, (F i).2, (i : Int))) (w * h) (by rfl) (fun i hi => ?_) ?_
  · have hF : F (i + 1) = if stepB w p i = true ∧ (i : Int) ∉ way then selR w (w * h) way (F i) (i : Int) else F i := by
      show List.foldl _ _ _ = _
      rw [List.range_succ, List.filter_append, List.map_append, List.filter_append, List.foldl_append]
      by_cases hb : stepB w p i = true
      · rw [show List.filter (fun b => stepB w p b) [i] = [i] by simp [hb]]
        by_cases hin : (i : Int) ∈ way
        · rw [if_neg (fun q => q.2 hin), List.map_cons, List.map_nil, filt_in hin]
          rfl
        · rw [if_pos ⟨hb, hin⟩, List.map_cons, List.map_nil, filt_out hin]
          rfl
      · rw [show List.filter (fun b => stepB w p b) [i] = [] by simp [hb], if_neg (fun q => hb q.1)]
        rfl
    simp only [gameroomref_KnightGreedy_L2]
    rw [w64_wh hw hh, if_pos (decide_eq_true (by omega))]
    unfold gameroomref_KnightGreedy_J2 gameroomref_KnightGreedy_J3
    rw [w64_of (x := (way.length : Int) - 1) (by omega), asrt_pos (by omega), show (way.length : Int) - 1 = ((way.length - 1 : Nat) : Int) by omega, hlast, step_r hw (by omega) (by omega), Option.bind_some, w64_of (x := (i : Int) + 1) (by omega), hF]
    cases hb : stepB w p i with
    | false =>
      rw [if_neg (by simp), Option.bind_some, if_pos (by simp), if_neg (by simp)]
      rfl
    | true =>
      obtain ⟨v, hv, hvi⟩ := at_r (l := way) (i : Int) (by omega)
      rw [if_pos (by decide), hv, Option.bind_some]
      by_cases hin : (i : Int) ∈ way
      · rw [if_pos (by simp; exact hvi.2 hin), if_neg (fun q => q.2 hin)]
        rfl
      · have hv0 : ¬ 0 ≤ v := fun q => hin (hvi.1 q)
        rw [if_neg (by simp; omega), if_pos ⟨rfl, hin⟩]
        unfold gameroomref_KnightGreedy_J4
        rw [deg_r hw hh hl hi, Option.bind_some]
        simp only [gameroomref_KnightGreedy_K3]
        unfold gameroomref_KnightGreedy_J5 gameroomref_KnightGreedy_J3 selR
        rw [Int.toNat_natCast, w64_of (x := (i : Int) + 1) (by omega)]
        by_cases hlt : ((freeK w (w * h) way i).length : Int) < (F i).2
        · rw [if_pos (decide_eq_true hlt), if_pos hlt]; rfl
        · rw [if_neg (by rw [decide_eq_true_eq]; exact hlt), if_neg hlt]; rfl
  · simp only [gameroomref_KnightGreedy_L2]
    rw [w64_wh hw hh, if_neg (by simp)]
    rfl

theorem sel_same {N : Nat} {way : List Int} : ∀ (l : List Int) (m : Int), l.foldl (selR w N way) (m, ((freeK w N way m.toNat).length : Int)) = (l.foldl (sel w N way) m, ((freeK w N way (l.foldl (sel w N way) m).toNat).length : Int))
  | [], m => rfl
  | x :: l, m => by
    rw [List.foldl_cons, List.foldl_cons]
    have e : selR w N way (m, ((freeK w N way m.toNat).length : Int)) x = (sel w N way m x, ((freeK w N way (sel w N way m x).toNat).length : Int)) := by
      unfold selR sel
      simp only
      by_cases hlt : (freeK w N way x.toNat).length < (freeK w N way m.toNat).length
      · rw [if_pos (by omega), if_pos hlt]
      · rw [if_neg (by omega), if_neg hlt]
    rw [e]
    exact sel_same l _
theorem sel_mem {N : Nat} {way : List Int} : ∀ (l : List Int) (m : Int), l.foldl (sel w N way) m = m ∨ l.foldl (sel w N way) m ∈ l
  | [], m => .inl rfl
  | x :: l, m => by
    rw [List.foldl_cons]
    have e : sel w N way m x = m ∨ sel w N way m x = x := by
      unfold sel
      split
      · exact .inr rfl
      · exact .inl rfl
    rcases sel_mem l (sel w N way m x) with q | q
    · rw [q]
      rcases e with e | e
      · exact .inl e
      · rw [e]; exact .inr (by simp)
    · exact .inr (List.mem_cons_of_mem _ q)

theorem tab_next {N : Nat} {l : List Int} {p : Nat} {seen : List Bool} (T : Tab N l seen) (hp : p < N) : Tab N (l ++ [(p : Int)]) (seen.set p true) := by
  refine ⟨by rw [List.length_set, T.len], fun b hb => ?_⟩
  have hb2 := T.bit b hb
  rw [getb_nat, List.getD_eq_getElem?_getD] at hb2 ⊢
  rw [List.getElem?_set]
  by_cases e : p = b
  · subst e
    rw [if_pos rfl, if_pos (by rw [T.len]; exact hp)]
    simp
  · rw [if_neg e, hb2, decide_eq_decide, List.mem_append, List.mem_singleton]
    constructor
    · exact fun q => .inl q
    · rintro (q | q)
      · exact q
      · omega

theorem step_both (hw : 1 ≤ w ∧ w ≤ 8) (hh : 1 ≤ h ∧ h ≤ 8) {m : Nat} {l : List Int} {p : Nat} {seen : List Bool} (hlen : (l ++ [(p : Int)]).length + m = w * h) (_hnd : (l ++ [(p : Int)]).Nodup) (hin : ∀ x ∈ l ++ [(p : Int)], ∃ b : Nat, b < w * h ∧ x = (b : Int)) (T : Tab (w * h) l seen) :
    (match freeK w (w * h) (l ++ [(p : Int)]) p with
      | [] => tour_Greedy_L1 (field w h, 0) (seen, l, (p : Int)) = some (.done (l ++ [(p : Int)], 0))
      | x0 :: rest => tour_Greedy_L1 (field w h, 0) (seen, l, (p : Int)) = some (.next (seen.set p true, l ++ [(p : Int)], rest.foldl (sel w (w * h) (l ++ [(p : Int)])) x0))) ∧
    (match freeK w (w * h) (l ++ [(p : Int)]) p with
      | [] => gameroomref_KnightGreedy_L1 w h (l ++ [(p : Int)]) = some (.done (l ++ [(p : Int)]))
      | x0 :: rest => gameroomref_KnightGreedy_L1 w h (l ++ [(p : Int)]) = some (.next ((l ++ [(p : Int)]) ++ [rest.foldl (sel w (w * h) (l ++ [(p : Int)])) x0]))) := by
  have hN := wh64 hw hh
  have hp : p < w * h := by
    obtain ⟨q, hq1, hq2⟩ := hin (p : Int) (by simp)
    omega
  have T' := tab_next T hp
  have hll : l.length + 1 ≤ w * h := by
    rw [List.length_append, List.length_singleton] at hlen
    omega
  have hfl := free_len (w := w) (N := w * h) (way := l ++ [(p : Int)]) (a := p)
  have hlast : geti (l ++ [(p : Int)]) (((l ++ [(p : Int)]).length - 1 : Nat) : Int) = (p : Int) := by
    rw [List.length_append, List.length_singleton, Nat.add_sub_cancel]
    exact geti_snoc _ _
  have ed : gameroomref_KnightGreedy_L1 w h (l ++ [(p : Int)]) = gameroomref_KnightGreedy_J1 (l ++ [(p : Int)]) ((freeK w (w * h) (l ++ [(p : Int)]) p).foldl (selR w (w * h) (l ++ [(p : Int)])) (-1, 100)).1 := by
    simp only [gameroomref_KnightGreedy_L1]
    rw [pick_r hw hh (by simp; omega) (by simp) hp hlast, Option.bind_some]
    rfl
  have ep : tour_Greedy_L1 (field w h, 0) (seen, l, (p : Int)) = if (((freeK w (w * h) (l ++ [(p : Int)]) p).length : Int) == 0) = true then some (.done (l ++ [(p : Int)], 0)) else tour_Greedy_J2 (field w h, 0) seen l p (freeK w (w * h) (l ++ [(p : Int)]) p) := by
    simp only [tour_Greedy_L1]
    rw [field_len, Int.toNat_natCast, asrt_pos (by omega), asrt_pos (by unfold bigN; omega), Int.toNat_natCast, free_p hw hh T' hp, Option.bind_some]
  rw [ed, ep]
  cases hnx : freeK w (w * h) (l ++ [(p : Int)]) p with
  | nil =>
    refine ⟨?_, ?_⟩
    · rfl
    · rfl
  | cons x0 rest =>
    have hmemN : ∀ x ∈ x0 :: rest, ∃ b : Nat, b < w * h ∧ x = (b : Int) := fun x hx => by
      rw [← hnx] at hx
      obtain ⟨⟨b, h1, h2, _⟩, _⟩ := free_mem.1 hx
      exact ⟨b, h1, h2⟩
    rw [hnx] at hfl
    refine ⟨?_, ?_⟩
    · simp only
      rw [if_neg (by rw [beq_iff_eq, List.length_cons]; omega)]
      unfold tour_Greedy_J2
      rw [Int.toNat_natCast, min_p hw hh T' (by omega) hmemN rfl, Option.bind_some]
    · simp only
      obtain ⟨b0, hb0, rfl⟩ := hmemN x0 (by simp)
      have hl0 := free_len (w := w) (N := w * h) (way := l ++ [(p : Int)]) (a := b0)
      have e1 : selR w (w * h) (l ++ [(p : Int)]) (-1, 100) (b0 : Int) = ((b0 : Int), ((freeK w (w * h) (l ++ [(p : Int)]) (b0 : Int).toNat).length : Int)) := by
        unfold selR
        rw [Int.toNat_natCast]
        exact if_pos (by show _ < (100 : Int); omega)
      rw [List.foldl_cons, e1, sel_same]
      obtain ⟨b, hb1, hb2⟩ : ∃ b : Nat, b < w * h ∧ rest.foldl (sel w (w * h) (l ++ [(p : Int)])) (b0 : Int) = (b : Int) := by
        rcases sel_mem (w := w) (N := w * h) (way := l ++ [(p : Int)]) rest (b0 : Int) with q | q
        · exact ⟨b0, hb0, q⟩
        · exact hmemN _ (List.mem_cons_of_mem _ q)
      simp only
      rw [hb2]
      unfold gameroomref_KnightGreedy_J1 gameroomref_KnightGreedy_J8
      rw [if_neg (by rw [decide_eq_true_eq]; omega), asrt_pos (by rw [List.length_append, List.length_singleton]; unfold bigN; omega)]

theorem greedy_both (hw : 1 ≤ w ∧ w ≤ 8) (hh : 1 ≤ h ∧ h ≤ 8) : ∀ (m : Nat) (l : List Int) (p : Nat) (seen : List Bool), (l ++ [(p : Int)]).length + m = w * h → (l ++ [(p : Int)]).Nodup → (∀ x ∈ l ++ [(p : Int)], ∃ b : Nat, b < w * h ∧ x = (b : Int)) → Tab (w * h) l seen →
    ∃ r, loop (tour_Greedy_L1 (field w h, 0)) (seen, l, (p : Int)) = some (r, 0) ∧ loop (gameroomref_KnightGreedy_L1 w h) (l ++ [(p : Int)]) = some r ∧ r.length ≤ w * h := by
  have hN := wh64 hw hh
  intro m
  induction m with
  | zero =>
    intro l p seen hlen hnd hin T
    obtain ⟨e0, e1⟩ := step_both hw hh hlen hnd hin T
    have hnil : freeK w (w * h) (l ++ [(p : Int)]) p = [] := by
      refine Classical.byContradiction fun hne => ?_
      obtain ⟨x, hx⟩ := List.exists_mem_of_ne_nil _ hne
      obtain ⟨⟨b, hb1, hb2, _⟩, hx2⟩ := free_mem.1 hx
      have := nodup_len (l := x :: (l ++ [(p : Int)])) (L := w * h) (List.nodup_cons.2 ⟨hx2, hnd⟩) (fun q hq => by
        rcases List.mem_cons.1 hq with rfl | hq
        · exact ⟨b, hb1, hb2⟩
        · exact hin q hq)
      rw [List.length_cons] at this
      omega
    rw [hnil] at e0 e1
    exact ⟨_, loop_done e0, loop_done e1, by omega⟩
  | succ m ih =>
    intro l p seen hlen hnd hin T
    obtain ⟨e0, e1⟩ := step_both hw hh hlen hnd hin T
    cases hnx : freeK w (w * h) (l ++ [(p : Int)]) p with
    | nil =>
      rw [hnx] at e0 e1
      exact ⟨_, loop_done e0, loop_done e1, by omega⟩
    | cons x0 rest =>
      rw [hnx] at e0 e1
      simp only at e0 e1
      have hmem : rest.foldl (sel w (w * h) (l ++ [(p : Int)])) x0 ∈ freeK w (w * h) (l ++ [(p : Int)]) p := by
        rw [hnx]
        rcases sel_mem rest x0 with q | q
        · rw [q]; simp
        · exact List.mem_cons_of_mem _ q
      obtain ⟨⟨b, hb1, hb2, _⟩, hx2⟩ := free_mem.1 hmem
      rw [hb2] at e0 e1 hx2
      have T' := tab_next (p := p) T (by
        have := hin (p : Int) (by simp)
        obtain ⟨q, hq1, hq2⟩ := this
        omega)
      obtain ⟨r, r1, r2, r3⟩ := ih (l ++ [(p : Int)]) b (seen.set p true) (by rw [List.length_append, List.length_singleton]; omega) (by
        rw [List.nodup_append]
        exact ⟨hnd, by simp, fun x hx y hy e => by
          rw [List.mem_singleton] at hy
          rw [e, hy] at hx
          exact hx2 hx⟩) (fun x hx => by
        rcases List.mem_append.1 hx with hx | hx
        · exact hin x hx
        · rw [List.mem_singleton] at hx
          exact ⟨b, hb1, hx⟩) T'
      exact ⟨r, loop_next' e0 r1, loop_next' e1 r2, r3⟩
end
end Go.Proofs.YtlpaklmfgldkoaaDoor
