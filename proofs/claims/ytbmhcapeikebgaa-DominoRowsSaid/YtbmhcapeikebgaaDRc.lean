/-
  DominoRows: a row turned round, rows, the same pieces.
-/
import Derived.Test.YtbmhcapeikebgaaDRb
namespace Go.Proofs.Ytbmhcapeikebgaa
open Go Go.GL

abbrev gp (l : List (Int × Int)) (i : Nat) : Int × Int := getd ((0, 0) : Int × Int) l (i : Int)
def mp (n : Nat) (g : Nat → Int × Int) : List (Int × Int) := (List.range n).map g
theorem mp_length (n : Nat) (g : Nat → Int × Int) : (mp n g).length = n := by simp [mp]
theorem gp_get {l : List (Int × Int)} {i : Nat} (h : i < l.length) : l[i]? = some (gp l i) := by
  unfold gp getd
  rw [Int.toNat_natCast, List.getD_eq_getElem?_getD, List.getElem?_eq_getElem h]; rfl
theorem mp_get {n : Nat} {g : Nat → Int × Int} {i : Nat} (h : i < n) : gp (mp n g) i = g i := by
  have := gp_get (l := mp n g) (i := i) (by rw [mp_length]; exact h)
  unfold mp at this
  rw [List.getElem?_map, List.getElem?_range h] at this
  exact (Option.some.inj this).symm
theorem ext_gp {a b : List (Int × Int)} (hl : a.length = b.length) (h : ∀ i : Nat, i < a.length → gp a i = gp b i) : a = b := by
  apply List.ext_getElem?
  intro i
  by_cases hi : i < a.length
  · rw [gp_get hi, gp_get (by omega), h i hi]
  · rw [List.getElem?_eq_none (by omega), List.getElem?_eq_none (by omega)]
theorem gp_set {l : List (Int × Int)} {i j : Nat} {v : Int × Int} (hi : i < l.length) (hj : j < l.length) : gp (l.set i v) j = if j = i then v else gp l j := by
  have h1 := gp_get (l := l.set i v) (i := j) (by rw [List.length_set]; exact hj)
  rw [List.getElem?_set] at h1
  by_cases e : i = j
  · subst e
    rw [if_pos rfl, if_pos hi] at h1
    rw [if_pos rfl]; exact (Option.some.inj h1).symm
  · rw [if_neg e, gp_get hj] at h1
    rw [if_neg (fun z => e z.symm)]; exact (Option.some.inj h1).symm
theorem gp_rev {l : List (Int × Int)} {i : Nat} (h : i < l.length) : gp l.reverse i = gp l (l.length - 1 - i) := by
  have h1 := gp_get (l := l.reverse) (i := i) (by rw [List.length_reverse]; exact h)
  rw [List.getElem?_reverse h, gp_get (by omega)] at h1
  exact (Option.some.inj h1).symm

theorem reverse_p {s : List (Int × Int)} (hs : s.length ≤ 1000) : slices_Reverse_2_m s = some s.reverse := by
  unfold slices_Reverse_2_m
  have key := loop_from (step := slices_Reverse_2_L1 s) (s0 := (s, 0, w64 ((s.length : Int) - 1))) (r := s.reverse) (fun k => (mp s.length (fun p => if p < k ∨ s.length - k ≤ p then gp s (s.length - 1 - p) else gp s p), (k : Int), (s.length : Int) - 1 - k)) (s.length / 2) (by
    rw [w64_of (by omega)]
    congr 1
    · refine ext_gp (mp_length _ _) (fun i hi => ?_)
      rw [mp_length] at hi
      rw [mp_get hi, if_neg (by omega)]
    · rw [Int.natCast_zero, Int.sub_zero]) (by
    intro k hk
    obtain ⟨j, hj⟩ : ∃ j, s.length - 1 - k = j := ⟨_, rfl⟩
    have hjI : (s.length : Int) - 1 - (k : Int) = (j : Int) := by omega
    simp only [slices_Reverse_2_L1, slices_Reverse_2_J2, slices_Reverse_2_J3]
    rw [hjI, if_pos (decide_eq_true (by omega)), asrt_pos (by omega), asrt_pos (by omega), asrt_pos (by omega), asrt_pos (by omega), Int.toNat_natCast, Int.toNat_natCast, w64_of (by omega), w64_of (by omega), show (s.length : Int) - 1 - ((k + 1 : Nat) : Int) = (j : Int) - 1 by omega]
    congr 3
    refine ext_gp (by rw [List.length_set, List.length_set, mp_length, mp_length]) (fun i hi => ?_)
    rw [List.length_set, List.length_set, mp_length] at hi
    rw [gp_set (by rw [List.length_set, mp_length]; omega) (by rw [List.length_set, mp_length]; omega), gp_set (by rw [mp_length]; omega) (by rw [mp_length]; omega), mp_get hi, mp_get hi]
    have g1 : getd ((0, 0) : Int × Int) (mp s.length (fun p => if p < k ∨ s.length - k ≤ p then gp s (s.length - 1 - p) else gp s p)) (k : Int) = gp s k := by
      have := mp_get (n := s.length) (g := fun p => if p < k ∨ s.length - k ≤ p then gp s (s.length - 1 - p) else gp s p) (i := k) (by omega)
      rw [if_neg (by omega)] at this; exact this
    have g2 : getd ((0, 0) : Int × Int) (mp s.length (fun p => if p < k ∨ s.length - k ≤ p then gp s (s.length - 1 - p) else gp s p)) (j : Int) = gp s j := by
      have := mp_get (n := s.length) (g := fun p => if p < k ∨ s.length - k ≤ p then gp s (s.length - 1 - p) else gp s p) (i := j) (by omega)
      rw [if_neg (by omega)] at this; exact this
    rw [g1, g2]
    by_cases e1 : i = j
    · rw [if_pos e1, if_pos (by omega), show s.length - 1 - i = k by omega]
    · rw [if_neg e1]
      by_cases e2 : i = k
      · rw [if_pos e2, if_pos (by omega), show s.length - 1 - i = j by omega]
      · rw [if_neg e2]
        by_cases e3 : i < k ∨ s.length - k ≤ i
        · rw [if_pos e3, if_pos (by omega)]
        · rw [if_neg e3, if_neg (by omega)]) (by
    simp only [slices_Reverse_2_L1]
    rw [if_neg (by rw [decide_eq_true_eq]; omega)]
    congr 2
    refine ext_gp (by rw [mp_length, List.length_reverse]) (fun i hi => ?_)
    rw [mp_length] at hi
    rw [mp_get hi, gp_rev hi]
    by_cases e3 : i < s.length / 2 ∨ s.length - s.length / 2 ≤ i
    · rw [if_pos e3]
    · rw [if_neg e3, show s.length - 1 - i = i by omega])
  rw [key]; rfl

theorem isT_at : ∀ {r : List (Int × Int)} {a t : Int}, isT a r t → ∀ i, i + 1 < r.length → (gp r i).2 = (gp r (i + 1)).1
  | [], _, _, _, i, h => by simp at h
  | [e], _, _, _, i, h => by simp at h
  | e :: f :: r, a, t, h, i, hi => by
    rcases i with _ | i
    · exact h.2.1.symm
    · have := isT_at (r := f :: r) h.2 i (by simp at hi ⊢; omega)
      exact this

theorem rowis_r {r : List (Int × Int)} (hr : r.length ≤ 1000) {a t : Int} (h : isT a r t) : gameroomref_RowIs_m r = some true := by
  unfold gameroomref_RowIs_m
  have key := loop_from (step := gameroomref_RowIs_L1 r) (s0 := 1) (r := Fl.go ()) (fun i => ((i + 1 : Nat) : Int)) (r.length - 1) rfl (fun i hi => by
    have e := isT_at h i (by omega)
    have e' : (getd ((0, 0) : Int × Int) r (i : Int)).2 = (getd ((0, 0) : Int × Int) r ((i + 1 : Nat) : Int)).1 := e
    simp only [gameroomref_RowIs_L1, gameroomref_RowIs_J2, gameroomref_RowIs_J3]
    rw [if_pos (decide_eq_true (by omega)), w64_of (x := ((i + 1 : Nat) : Int) - 1) (by omega), show ((i + 1 : Nat) : Int) - 1 = (i : Int) by omega, asrt_pos (by omega), asrt_pos (by omega), e', if_neg (by simp), w64_of (by omega)]; rfl) (by
    simp only [gameroomref_RowIs_L1]
    rw [if_neg (by rw [decide_eq_true_eq]; omega)])
  rw [key]; rfl

/-! ### The same pieces -/
def nm (e : Int × Int) : Int × Int := if e.1 ≤ e.2 then (e.1, e.2) else (e.2, e.1)
theorem nm_iff (e f : Int × Int) : nm e = nm f ↔ (e.1 = f.1 ∧ e.2 = f.2) ∨ (e.1 = f.2 ∧ e.2 = f.1) := by
  unfold nm
  by_cases h1 : e.1 ≤ e.2
  · rw [if_pos h1]
    by_cases h2 : f.1 ≤ f.2
    · rw [if_pos h2, Prod.mk.injEq]; omega
    · rw [if_neg h2, Prod.mk.injEq]; omega
  · rw [if_neg h1]
    by_cases h2 : f.1 ≤ f.2
    · rw [if_pos h2, Prod.mk.injEq]; omega
    · rw [if_neg h2, Prod.mk.injEq]; omega

theorem sm_set {n : Nat} {u : List Bool} {i : Nat} (h : Nat → Int) (hu : u.length = n) (hi : i < n) (h0 : getb u (i : Int) = false) : sm n (fun k => if getb u (k : Int) then 0 else h k) = sm n (fun k => if getb (u.set i true) (k : Int) then 0 else h k) + h i := by
  have e : ∀ j, j < n → (if getb u (j : Int) then 0 else h j) = (if getb (u.set i true) (j : Int) then 0 else h j) + (if j = i then h j else 0) := fun j hj => by
    rw [getb_st (by omega)]
    by_cases q : j = i
    · subst q; rw [if_pos rfl, if_pos rfl, h0, if_pos rfl]; simp
    · rw [if_neg q, if_neg q]; simp
  rw [sm_congr _ e, sm_add, sm_pick, if_pos hi]

def ind (w : Int × Int) (e : Int × Int) : Int := if nm e = w then 1 else 0
/-- How many alike are not used yet. -/
def lf (b : List (Int × Int)) (u : List Bool) (w : Int × Int) : Int := sm b.length (fun k => if getb u (k : Int) then 0 else ind w (gp b k))

theorem find_r {a b : List (Int × Int)} (hb : b.length ≤ 60) {i : Nat} (hi : i < a.length) {u : List Bool} (hu : u.length = b.length) (h : 1 ≤ lf b u (nm (gp a i))) :
    ∃ k : Nat, k < b.length ∧ getb u (k : Int) = false ∧ nm (gp b k) = nm (gp a i) ∧ loop (gameroomref_SamePieces_L2 a b i) (u, false, 0) = some (u.set k true, true) := by
  obtain ⟨r, e, k, h1, h2, h3, rfl⟩ := count_loop (step := gameroomref_SamePieces_L2 a b i) (fun (x : List Bool × Bool) (k : Nat) => (x.1, x.2, (k : Int)))
    (fun k x => (x = (u, false) ∧ ∀ j : Nat, j < k → getb u (j : Int) = true ∨ nm (gp b j) ≠ nm (gp a i)) ∨ ∃ k0 : Nat, k0 < b.length ∧ getb u (k0 : Int) = false ∧ nm (gp b k0) = nm (gp a i) ∧ x = (u.set k0 true, true))
    (fun r => ∃ k0 : Nat, k0 < b.length ∧ getb u (k0 : Int) = false ∧ nm (gp b k0) = nm (gp a i) ∧ r = (u.set k0 true, true)) b.length (u, false) (Or.inl ⟨rfl, fun j hj => by omega⟩) (by
    rintro k x hk (⟨rfl, hI⟩ | ⟨k0, g1, g2, g3, rfl⟩)
    · left
      simp only [gameroomref_SamePieces_L2, gameroomref_SamePieces_J6, gameroomref_SamePieces_J7]
      rw [Int.toNat_natCast, if_pos (by rw [Bool.and_eq_true]; exact ⟨decide_eq_true (by omega), rfl⟩), asrt_pos (by omega), asrt_pos (by intro _; omega), asrt_pos (by intro _; omega), asrt_pos (by intro _ _; omega), asrt_pos (by intro _ _; omega), asrt_pos (by intro _ _ _; omega), asrt_pos (by intro _ _ _; omega)]
      by_cases q : getb u (k : Int) = false ∧ nm (gp b k) = nm (gp a i)
      · have q2 := (nm_iff _ _).1 q.2.symm
        refine ⟨(u.set k true, true), ?_, Or.inr ⟨k, hk, q.1, q.2, rfl⟩⟩
        rw [if_pos (by rw [Bool.and_eq_true, Bool.or_eq_true, Bool.and_eq_true, Bool.and_eq_true, beq_iff_eq, beq_iff_eq, beq_iff_eq, beq_iff_eq, Bool.not_eq_true']; exact ⟨q.1, q2⟩), asrt_pos (by omega), Int.toNat_natCast, w64_of (by omega)]; rfl
      · refine ⟨(u, false), ?_, Or.inl ⟨rfl, fun j hj => ?_⟩⟩
        · rw [if_neg (by rw [Bool.and_eq_true, Bool.or_eq_true, Bool.and_eq_true, Bool.and_eq_true, beq_iff_eq, beq_iff_eq, beq_iff_eq, beq_iff_eq, Bool.not_eq_true']; exact fun z => q ⟨z.1, ((nm_iff _ _).2 z.2).symm⟩), w64_of (by omega)]; rfl
        · by_cases e : j = k
          · subst e
            cases z : getb u (j : Int) with
            | true => exact Or.inl rfl
            | false => exact Or.inr (fun w => q ⟨z, w⟩)
          · exact hI j (by omega)
    · right
      refine ⟨_, ?_, k0, g1, g2, g3, rfl⟩
      simp only [gameroomref_SamePieces_L2]
      rw [if_neg (by simp)]) (by
    rintro x (⟨rfl, hI⟩ | ⟨k0, g1, g2, g3, rfl⟩)
    · exfalso
      have : lf b u (nm (gp a i)) = 0 := by
        unfold lf
        rw [sm_congr (g := fun _ => 0) _ (fun j hj => ?_), sm_zero]
        rcases hI j hj with z | z
        · rw [z, if_pos rfl]
        · unfold ind
          rw [if_neg z]; split <;> rfl
      omega
    · refine ⟨_, ?_, k0, g1, g2, g3, rfl⟩
      simp only [gameroomref_SamePieces_L2]
      rw [if_neg (by simp)])
  exact ⟨k, h1, h2, h3, e⟩

theorem same_r {a b : List (Int × Int)} (hb : b.length ≤ 60) (hl : a.length = b.length) (h0 : ∀ w, sm b.length (fun k => ind w (gp b k)) = (((a.map nm).count w : Nat) : Int)) : gameroomref_SamePieces_m a b = some true := by
  unfold gameroomref_SamePieces_m
  rw [if_neg (by rw [hl]; simp)]
  unfold gameroomref_SamePieces_J1
  rw [asrt_pos (by unfold bigN; omega), Int.toNat_natCast]
  obtain ⟨r, e, rfl⟩ := count_loop (step := gameroomref_SamePieces_L1 a b) (fun (u : List Bool) (i : Nat) => (u, (i : Int))) (fun i u => u.length = b.length ∧ ∀ w, lf b u w = ((((a.drop i).map nm).count w : Nat) : Int)) (fun r => r = .go ()) a.length (List.replicate b.length false) ⟨List.length_replicate, fun w => by
      rw [List.drop_zero, ← h0 w]
      refine sm_congr _ (fun i hi => ?_)
      have : getb (List.replicate b.length false) (i : Int) = false := by
        unfold getb
        rw [Int.toNat_natCast, List.getD_eq_getElem?_getD, List.getElem?_replicate, if_pos hi]; rfl
      rw [this, if_neg (by decide)]⟩ (by
    intro i u hi ⟨h1, h2⟩
    left
    have hd : a.drop i = gp a i :: a.drop (i + 1) := by
      have g := gp_get hi
      rw [List.getElem?_eq_getElem hi] at g
      rw [List.drop_eq_getElem_cons hi, Option.some.inj g]
    have hpos : 1 ≤ lf b u (nm (gp a i)) := by
      rw [h2, hd, List.map_cons, List.count_cons_self]; omega
    obtain ⟨k, k1, k2, k3, k4⟩ := find_r hb hi h1 hpos
    refine ⟨u.set k true, ?_, by rw [List.length_set, h1], fun w => ?_⟩
    · simp only [gameroomref_SamePieces_L1, gameroomref_SamePieces_J3]
      rw [if_pos (decide_eq_true (by omega)), k4, Option.bind_some]
      simp only [gameroomref_SamePieces_K2, gameroomref_SamePieces_J5, gameroomref_SamePieces_J4]
      rw [if_neg (by decide), w64_of (by omega)]; rfl
    · have hw := h2 w
      unfold lf at hw ⊢
      rw [sm_set (fun k => ind w (gp b k)) h1 k1 k2, hd, List.map_cons, List.count_cons] at hw
      unfold ind at hw ⊢
      by_cases q : nm (gp a i) = w
      · rw [if_pos (by rw [k3]; exact q), if_pos (by simpa using q)] at hw
        omega
      · rw [if_neg (by rw [k3]; exact q), if_neg (by simpa using q)] at hw
        omega) (by
    intro u _
    refine ⟨.go (), ?_, rfl⟩
    simp only [gameroomref_SamePieces_L1]
    rw [if_neg (by simp)])
  have e' : loop (gameroomref_SamePieces_L1 a b) (List.replicate b.length false, 0) = some (.go ()) := e
  rw [e']; rfl

theorem sm_count (b : List (Int × Int)) (w : Int × Int) : sm b.length (fun k => ind w (gp b k)) = (((b.map nm).count w : Nat) : Int) := by
  have key : ∀ k, k ≤ b.length → sm k (fun k => ind w (gp b k)) = ((((b.take k).map nm).count w : Nat) : Int) := by
    intro k
    induction k with
    | zero => intro _; rfl
    | succ k ih =>
      intro hk
      rw [sm_succ, ih (by omega), List.take_add_one, gp_get (by omega), Option.toList_some, List.map_append, List.count_append, List.map_cons, List.map_nil, List.count_singleton]
      unfold ind
      by_cases q : nm (gp b k) = w
      · rw [if_pos q, if_pos (by simpa using q)]; omega
      · rw [if_neg q, if_neg (by simpa using q)]; omega
  rw [key _ (Nat.le_refl _), List.take_length]

theorem perm_nat : ∀ {a b : List Nat}, a.Nodup → (∀ x, x ∈ a → x ∈ b) → b.length ≤ a.length → a.Perm b
  | [], b, _, _, h => by
    have : b = [] := List.length_eq_zero_iff.1 (by simpa using h)
    subst this; exact .nil
  | x :: a, b, hn, hs, hl => by
    have hx := hs x (by simp)
    have hp := List.perm_cons_erase hx
    rw [List.nodup_cons] at hn
    refine (List.Perm.cons x (perm_nat hn.2 (fun y hy => ?_) ?_)).trans hp.symm
    · have hne : y ≠ x := fun e => hn.1 (e ▸ hy)
      exact (List.mem_erase_of_ne hne).2 (hs y (List.mem_cons_of_mem _ hy))
    · have := hp.length_eq
      simp only [List.length_cons] at this hl
      omega
end Go.Proofs.Ytbmhcapeikebgaa
