/-
  HanoiMoves: the plain law: what the models of the program and of the references compute agrees.
-/
import Derived.Test.YtbmhcapeikebgaaNW
import Derived.Test.YtbmhcapeikebgaaLibX
namespace Go.Proofs.Ytbmhcapeikebgaa
open Go Go.GL

theorem ints_eq {l : List Int} (h : l.length ≤ 17592186044416) : gameroomlaw_ints_m l = some l := by
  unfold gameroomlaw_ints_m
  rw [asrt_pos (by unfold bigN; omega)]
  simp
theorem rints_eq {l : List Int} (h : l.length ≤ 17592186044416) : gameroomref_Ints_m l = some l := by
  unfold gameroomref_Ints_m
  rw [asrt_pos (by unfold bigN; omega)]
  simp
theorem clone_eq {l : List Int} (h : l.length ≤ 17592186044416) : slices_Clone_m l = some l := by
  unfold slices_Clone_m slices_Clone_J1
  rw [asrt_pos (by unfold bigN; omega)]
  simp

def offB (x : Int) : Bool := decide (x < 0) || decide ((2 : Int) < x)
theorem offB_in (x : Int) : offB x = !(decide (0 ≤ x) && decide (x ≤ 2)) := by
  unfold offB
  by_cases h1 : 0 ≤ x <;> by_cases h2 : x ≤ 2 <;> simp [h1, h2, Int.not_lt.2] <;> omega

theorem indexFunc_eq {s : List Int} (hs : s.length ≤ 17592186044416) : slices_IndexFunc_m s = some (fidx offB s) := by
  unfold slices_IndexFunc_m
  rw [search_loop (l := s) offB (fun i => Fl.ret (i : Int)) (Fl.go ()) ?_ ?_ ?_]
  · unfold fidx
    cases s.findIdx? offB <;> rfl
  · intro i x hx hp
    have hb := idx_bd hx
    simp only [slices_IndexFunc_L1, slices_IndexFunc_J2]
    rw [if_pos (by simpa using hb.2), asrt_pos hb, geti_some hx]
    simp only [hanoi_off_m, Option.bind_some]
    exact if_pos hp
  · intro i x hx hp
    have hb := idx_bd hx
    simp only [slices_IndexFunc_L1, slices_IndexFunc_J2]
    rw [if_pos (by simpa using hb.2), asrt_pos hb, geti_some hx]
    simp only [hanoi_off_m, Option.bind_some]
    rw [if_neg (by unfold offB at hp; rw [hp]; simp)]
    simp only [slices_IndexFunc_J3]
    rw [w64_succ (by omega)]
  · simp only [slices_IndexFunc_L1]
    rw [if_neg (by simp)]

def chk (s : List Int) : Int := if 40 < s.length then 2 else if s.any offB then 3 else 0

theorem check_eq {s : List Int} (hs : s.length ≤ 17592186044416) : hanoi_check_m s = some (chk s) := by
  unfold hanoi_check_m chk
  by_cases h : 40 < s.length
  · rw [if_pos (decide_eq_true (by omega)), if_pos h]
  · rw [if_neg (by simp; omega), if_neg h]
    unfold slices_ContainsFunc_m
    rw [indexFunc_eq hs]
    simp only [Option.bind_some, hanoi_check_J1]
    by_cases h2 : s.any offB = true
    · rw [if_pos (by simpa using (fidx_neg offB s).2 h2), if_pos h2]
    · rw [if_neg (by simpa using fun h3 => h2 ((fidx_neg offB s).1 h3)), if_neg h2]

theorem discsMay_eq {s : List Int} (hs : s.length ≤ 17592186044416) : gameroomref_DiscsMay_m s = some (chk s) := by
  unfold gameroomref_DiscsMay_m chk
  by_cases h : 40 < s.length
  · rw [if_pos (decide_eq_true (by omega)), if_pos h]
  · rw [if_neg (by simp; omega), if_neg h]
    unfold gameroomref_DiscsMay_J1
    rw [search_loop (l := s) offB (fun i => Fl.ret (3 : Int)) (Fl.go ()) ?_ ?_ ?_]
    · have hn := fidx_neg offB s
      unfold fidx at hn
      cases hf : s.findIdx? offB with
      | none =>
        rw [hf] at hn
        have : ¬ s.any offB = true := fun h => by have := hn.2 h; simp at this
        rw [if_neg this]; rfl
      | some i =>
        rw [hf] at hn
        have : s.any offB = true := hn.1 (by simp)
        rw [if_pos this]; rfl
    · intro i x hx hp
      have hb := idx_bd hx
      simp only [gameroomref_DiscsMay_L1, gameroomref_DiscsMay_J3]
      rw [if_pos (by simpa using hb.2), asrt_pos hb, geti_some hx]
      simp only [gameroomref_within_m, Option.bind_some]
      rw [if_pos (by rw [← offB_in]; exact hp)]
    · intro i x hx hp
      have hb := idx_bd hx
      simp only [gameroomref_DiscsMay_L1, gameroomref_DiscsMay_J3]
      rw [if_pos (by simpa using hb.2), asrt_pos hb, geti_some hx]
      simp only [gameroomref_within_m, Option.bind_some]
      rw [if_neg (by rw [← offB_in, hp]; simp)]
      simp only [gameroomref_DiscsMay_J4]
      rw [w64_succ (by omega)]
    · simp only [gameroomref_DiscsMay_L1]
      rw [if_neg (by simp)]

theorem index_eq {s : List Int} (v : Int) (hs : s.length ≤ 17592186044416) : slices_Index_m s v = some (fidx (fun x => v == x) s) := by
  unfold slices_Index_m
  rw [search_loop (l := s) (fun x => v == x) (fun i => Fl.ret (i : Int)) (Fl.go ()) ?_ ?_ ?_]
  · unfold fidx
    cases s.findIdx? (fun x => v == x) <;> rfl
  · intro i x hx hp
    have hb := idx_bd hx
    simp only [slices_Index_L1, slices_Index_J2]
    rw [if_pos (by simpa using hb.2), asrt_pos hb, geti_some hx, if_pos hp]
  · intro i x hx hp
    have hb := idx_bd hx
    simp only [slices_Index_L1, slices_Index_J2]
    rw [if_pos (by simpa using hb.2), asrt_pos hb, geti_some hx, if_neg (by rw [hp]; simp)]
    simp only [slices_Index_J3]
    rw [w64_succ (by omega)]
  · simp only [slices_Index_L1]
    rw [if_neg (by simp)]

/-- A move, as both say it. -/
def doP (s : List Int) (a b : Int) : List Int × Int :=
  if offB a || offB b || a == b then ([], 5)
  else if fidx (fun x => a == x) s < 0 then ([], 10)
  else if 0 ≤ fidx (fun x => b == x) s ∧ fidx (fun x => b == x) s < fidx (fun x => a == x) s then ([], 8)
  else (s.set (fidx (fun x => a == x) s).toNat b, 0)

theorem do_eq {s : List Int} (a b c : Int) (hs : s.length ≤ 17592186044416) (hc : chk s = 0) : hanoi_Do_m s a b c = some (doP s a b) := by
  unfold hanoi_Do_m doP
  rw [check_eq hs, hc]
  simp only [Option.bind_some, hanoi_Do_J1, hanoi_off_m]
  rw [if_neg (by simp)]
  have e1 : (decide (a < 0) || decide ((2 : Int) < a)) = offB a := rfl
  have e2 : (decide (b < 0) || decide ((2 : Int) < b)) = offB b := rfl
  rw [e1, e2]
  have e3 : ∀ x y : Bool, (if (!x) = true then some y else some false).bind (fun r3 => if ((x || r3) || a == b) = true then some (([] : List Int), (5 : Int)) else hanoi_Do_J2 s a b) = if (x || y || a == b) = true then some ([], 5) else hanoi_Do_J2 s a b := by
    intro x y
    cases x <;> simp
  rw [e3]
  by_cases h1 : (offB a || offB b || a == b) = true
  · rw [if_pos h1, if_pos h1]
  · rw [if_neg h1, if_neg h1]
    unfold hanoi_Do_J2
    rw [index_eq a hs, index_eq b hs]
    simp only [Option.bind_some]
    by_cases h2 : fidx (fun x => a == x) s < 0
    · rw [if_pos (by simpa using h2), if_pos h2]
    · rw [if_neg (by simpa using h2), if_neg h2]
      by_cases h3 : 0 ≤ fidx (fun x => b == x) s ∧ fidx (fun x => b == x) s < fidx (fun x => a == x) s
      · rw [if_pos (by simpa using h3), if_pos h3]
      · rw [if_neg (by simpa using h3), if_neg h3]
        unfold hanoi_Do_J3
        rw [clone_eq hs]
        simp only [Option.bind_some]
        rw [asrt_pos ⟨by omega, (fidx_bd _ s).2⟩]

theorem beq_flip (v : Int) : (fun x : Int => x == v) = fun x => v == x := by
  funext x
  rw [Bool.eq_iff_iff, beq_iff_eq, beq_iff_eq]
  exact eq_comm

theorem findIdx_take {p : Int → Bool} {s : List Int} (t : Nat) : (s.take t).findIdx? p = match s.findIdx? p with | some i => if i < t then some i else none | none => none := by
  induction s generalizing t with
  | nil => simp
  | cons x s ih =>
    cases t with
    | zero => simp [List.findIdx?_cons]; split <;> rfl
    | succ t =>
      rw [List.take_succ_cons, List.findIdx?_cons, List.findIdx?_cons]
      cases hp : p x with
      | true => simp
      | false =>
        simp only [Bool.false_eq_true, if_false]
        rw [ih t]
        cases s.findIdx? p with
        | none => rfl
        | some i =>
          simp only [Option.map_some]
          by_cases h : i < t
          · rw [if_pos h, if_pos (by omega)]; rfl
          · rw [if_neg h, if_neg (by omega)]; rfl

theorem discMove_eq {s : List Int} (a b c : Int) (hs : s.length ≤ 17592186044416) : gameroomref_DiscMove_m s a b c = some (doP s a b) := by
  unfold gameroomref_DiscMove_m doP
  simp only [Option.bind_some, gameroomref_within_m]
  have e1 : (decide (0 ≤ a) && decide (a ≤ 2)) = !offB a := by rw [offB_in, Bool.not_not]
  have e2 : (decide (0 ≤ b) && decide (b ≤ 2)) = !offB b := by rw [offB_in, Bool.not_not]
  rw [e1, e2]
  have e3 : ∀ x y : Bool, (if (!!!x) = true then some (!y) else some false).bind (fun r2 => if ((!!x || !r2) || a == b) = true then some (([] : List Int), (5 : Int)) else gameroomref_DiscMove_J1 s a b) = if (x || y || a == b) = true then some ([], 5) else gameroomref_DiscMove_J1 s a b := by
    intro x y
    cases x <;> simp
  rw [e3]
  by_cases h1 : (offB a || offB b || a == b) = true
  · rw [if_pos h1, if_pos h1]
  · rw [if_neg h1, if_neg h1]
    unfold gameroomref_DiscMove_J1
    have hl : loop (gameroomref_DiscMove_L1 s a) 0 = some (fidx (fun x => a == x) s) := by
      rw [search_loop (l := s) (fun x => a == x) (fun i => (i : Int)) (-1) ?_ ?_ ?_]
      · rfl
      · intro i x hx hp
        have hb := idx_bd hx
        simp only [gameroomref_DiscMove_L1, gameroomref_DiscMove_J3]
        rw [if_pos (by simpa using hb.2), asrt_pos hb, geti_some hx, if_pos (by rw [show (x == a) = (a == x) from congrFun (beq_flip a) x]; exact hp)]
      · intro i x hx hp
        have hb := idx_bd hx
        simp only [gameroomref_DiscMove_L1, gameroomref_DiscMove_J3]
        rw [if_pos (by simpa using hb.2), asrt_pos hb, geti_some hx, if_neg (by rw [show (x == a) = (a == x) from congrFun (beq_flip a) x, hp]; simp)]
        simp only [gameroomref_DiscMove_J4]
        rw [w64_succ (by omega)]
      · simp only [gameroomref_DiscMove_L1]
        rw [if_neg (by simp)]
    rw [hl]
    simp only [Option.bind_some, gameroomref_DiscMove_K1, gameroomref_DiscMove_J2]
    have hbd := fidx_bd (fun x => a == x) s
    by_cases h2 : fidx (fun x => a == x) s < 0
    · rw [if_pos (by simpa using h2), if_pos h2]
    · rw [if_neg (by simpa using h2), if_neg h2]
      unfold gameroomref_DiscMove_J5
      generalize hd : fidx (fun x => a == x) s = d at hbd h2
      obtain ⟨k, rfl⟩ := Int.eq_ofNat_of_zero_le (Int.not_lt.1 h2)
      have hk : k < s.length := by omega
      have hlen : (s.take k).length = k := by rw [List.length_take]; omega
      have hl2 : loop (gameroomref_DiscMove_L2 s b (k : Int)) 0 = some (match (s.take k).findIdx? (fun x => b == x) with | some i => Fl.ret (([] : List Int), (8 : Int)) | none => Fl.go ()) := by
        refine search_loop (l := s.take k) (fun x => b == x) (fun i => Fl.ret (([] : List Int), (8 : Int))) (Fl.go ()) ?_ ?_ ?_
        · intro i x hx hp
          have hik : i < k := by have := (List.getElem?_eq_some_iff.1 hx).1; omega
          rw [List.getElem?_take, if_pos hik] at hx
          have hb := idx_bd hx
          simp only [gameroomref_DiscMove_L2, gameroomref_DiscMove_J7]
          rw [if_pos (by simpa using hik), asrt_pos hb, geti_some hx, if_pos (by rw [show (x == b) = (b == x) from congrFun (beq_flip b) x]; exact hp)]
        · intro i x hx hp
          have hik : i < k := by have := (List.getElem?_eq_some_iff.1 hx).1; omega
          rw [List.getElem?_take, if_pos hik] at hx
          have hb := idx_bd hx
          simp only [gameroomref_DiscMove_L2, gameroomref_DiscMove_J7]
          rw [if_pos (by simpa using hik), asrt_pos hb, geti_some hx, if_neg (by rw [show (x == b) = (b == x) from congrFun (beq_flip b) x, hp]; simp)]
          simp only [gameroomref_DiscMove_J8]
          rw [w64_succ (by omega)]
        · simp only [gameroomref_DiscMove_L2]
          rw [if_neg (by rw [hlen]; simp)]
      rw [hl2, findIdx_take]
      unfold fidx
      cases hf : s.findIdx? (fun x => b == x) with
      | none =>
        simp only [Option.bind_some, gameroomref_DiscMove_K2, gameroomref_DiscMove_J6]
        rw [rints_eq hs]
        simp only [Option.bind_some]
        rw [asrt_pos ⟨by omega, by omega⟩, if_neg (by omega)]
      | some i =>
        by_cases hik : i < k
        · simp only [if_pos hik, Option.bind_some, gameroomref_DiscMove_K2]
          rw [if_pos ⟨by omega, by omega⟩]
        · simp only [if_neg hik, Option.bind_some, gameroomref_DiscMove_K2, gameroomref_DiscMove_J6]
          rw [rints_eq hs]
          simp only [Option.bind_some]
          rw [asrt_pos ⟨by omega, by omega⟩, if_neg (by omega)]

theorem sameInts_eq {a b : List Int} (ha : a.length ≤ 17592186044416) : gameroomlaw_sameInts_m a b = some (decide (a = b)) := by
  unfold gameroomlaw_sameInts_m
  by_cases hl : a.length = b.length
  · rw [if_neg (by simp [hl])]
    unfold gameroomlaw_sameInts_J1
    have h := count_loop (step := gameroomlaw_sameInts_L1 a b) (fun (_ : Unit) k => (k : Int)) (fun k _ => ∀ i, i < k → a[i]? = b[i]?) (fun r => gameroomlaw_sameInts_K1 r = some (decide (a = b))) a.length () (fun i hi => by omega) ?_ ?_
    · obtain ⟨r, h1, h2⟩ := h
      have h1' : loop (gameroomlaw_sameInts_L1 a b) 0 = some r := h1
      rw [h1']
      exact h2
    · intro i _ hi hI
      obtain ⟨x, hx⟩ : ∃ x, a[i]? = some x := ⟨_, List.getElem?_eq_getElem hi⟩
      obtain ⟨y, hy⟩ : ∃ y, b[i]? = some y := ⟨_, List.getElem?_eq_getElem (by omega)⟩
      simp only [gameroomlaw_sameInts_L1, gameroomlaw_sameInts_J3]
      rw [if_pos (by simpa using hi), asrt_pos (idx_bd hx), asrt_pos (idx_bd hy), geti_some hx, geti_some hy]
      by_cases hxy : x = y
      · left
        rw [if_neg (by simp [hxy])]
        refine ⟨(), by simp only [gameroomlaw_sameInts_J4]; rw [w64_succ (by omega)]; rfl, fun j hj => ?_⟩
        by_cases hji : j = i
        · subst hji; rw [hx, hy, hxy]
        · exact hI j (by omega)
      · right
        rw [if_pos (by simp [hxy])]
        refine ⟨_, rfl, ?_⟩
        have hne : a ≠ b := fun h => hxy (by rw [h, hy] at hx; exact (Option.some.inj hx).symm)
        simp [gameroomlaw_sameInts_K1, hne]
    · intro _ hI
      refine ⟨Fl.go (), ?_, ?_⟩
      · simp only [gameroomlaw_sameInts_L1]
        rw [if_neg (by simp)]
      · have : a = b := by
          apply List.ext_getElem?
          intro i
          by_cases hi : i < a.length
          · exact hI i hi
          · rw [List.getElem?_eq_none (by omega), List.getElem?_eq_none (by omega)]
        simp [gameroomlaw_sameInts_K1, gameroomlaw_sameInts_J2, this]
  · rw [if_pos (by simp; omega)]
    have : a ≠ b := fun h => hl (by rw [h])
    simp [this]
end Go.Proofs.Ytbmhcapeikebgaa
