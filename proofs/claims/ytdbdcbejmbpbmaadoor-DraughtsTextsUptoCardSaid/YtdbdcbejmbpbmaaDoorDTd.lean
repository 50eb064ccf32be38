/-
  DraughtsTexts: a way as text; the law.
-/
import Derived.Test.YtdbdcbejmbpbmaaDoorDTc
import Derived.Lib.Join
namespace Go.Proofs.YtdbdcbejmbpbmaaDoor
open Go Go.GL

def dg (n : Nat) : UInt8 := UInt8.ofNat (48 + n)
def D1 (n : Nat) : List UInt8 := if n < 10 then [dg n] else [dg (n / 10), dg (n % 10)]
theorem D1_len (n : Nat) : (D1 n).length ≤ 2 := by unfold D1; split <;> simp
theorem dec_lt {n : Nat} (h : n < 10) : Lib.decDigits n = [dg n] := by rw [Lib.decDigits, dif_pos h]; rfl
theorem dec_ge {n : Nat} (h : ¬ n < 10) : Lib.decDigits n = Lib.decDigits (n / 10) ++ [dg (n % 10)] := by rw [Lib.decDigits, dif_neg h]; rfl
theorem itoa_D1 {n : Nat} (h : n < 100) : itoaL (n : Int) = D1 n := by
  unfold itoaL Lib.itoa D1
  rw [if_neg (by omega), Int.toNat_natCast]
  by_cases q : n < 10
  · rw [if_pos q, dec_lt q]
  · rw [if_neg q, dec_ge q, dec_lt (by omega)]; rfl
set_option maxRecDepth 100000 in
theorem Dec_all : ∀ n < 100, gameroomref_Dec_mF 3 ((n : Nat) : Int) = some (D1 n) := by decide +kernel
theorem Dec_p {n : Nat} (h : n < 100) : gameroomref_Dec_m (n : Int) = some (D1 n) := gameroomref_Dec_m_of 3 _ (Dec_all n h)

/-- A place's number as text. -/
def pt (x : Int) : List UInt8 := D1 x.toNat
theorem strB_iff {x : Int} : strB x = false ↔ 1 ≤ x ∧ x ≤ 32 := by
  unfold strB
  rw [Bool.or_eq_false_iff, decide_eq_false_iff_not, decide_eq_false_iff_not]
  omega
theorem pt_len (x : Int) : (pt x).length ≤ 2 := D1_len _
/-- A way's text. -/
def wt (c : UInt8) (way : List Int) : List UInt8 := Lib.join (way.map pt) [c]
theorem join_snoc {l : List (List UInt8)} {x c : List UInt8} (h : l ≠ []) : Lib.join (l ++ [x]) c = Lib.join l c ++ c ++ x := by
  cases l with
  | nil => exact absurd rfl h
  | cons y r =>
    rw [List.cons_append, Lib.join_cons, Lib.join_cons]
    unfold Lib.joinTail
    simp
theorem wt_len (c : UInt8) : ∀ way : List Int, (wt c way).length ≤ 3 * way.length := by
  intro way
  cases way with
  | nil => simp [wt, Lib.join_nil]
  | cons x r =>
    unfold wt
    rw [List.map_cons, Lib.join_cons]
    unfold Lib.joinTail
    have h1 := pt_len x
    have h2 : ∀ r : List Int, ((r.map pt).map ([c] ++ ·)).flatten.length ≤ 3 * r.length := by
      intro r
      induction r with
      | nil => simp
      | cons y r ih =>
        have := pt_len y
        simp only [List.map_cons, List.flatten_cons, List.length_append, List.length_cons, List.length_nil] at ih ⊢
        omega
    have := h2 r
    simp only [List.length_append, List.length_cons] at this ⊢
    omega

variable {way : List Int}
theorem geti_at {i : Nat} (hi : i < way.length) : geti way (i : Int) = way.getD i 0 := geti_nat way i
theorem take_snoc {i : Nat} (hi : i < way.length) : way.take (i + 1) = way.take i ++ [way.getD i 0] := by
  rw [List.take_add_one, List.getD_eq_getElem?_getD, List.getElem?_eq_getElem hi]
  rfl
theorem Text_p {jump : Bool} (hw : way.length ≤ 1048576) : draughts_Text_m way jump = some (if way.length < 2 then ([], 1) else if way.any strB = true then ([], 3) else (wt (if jump = true then 120 else 45) way, 0)) := by
  unfold draughts_Text_m
  by_cases q : way.length < 2
  · rw [if_pos (by simp; omega), if_pos q]
  · rw [if_neg (by simp; omega), if_neg q, strange_any (by omega), Option.bind_some]
    cases ha : way.any strB with
    | true => rfl
    | false =>
      rw [if_neg (by decide), if_neg (by decide)]
      have hall : ∀ i : Nat, i < way.length → 1 ≤ way.getD i 0 ∧ way.getD i 0 ≤ 32 := fun i hi => by
        have hm : way.getD i 0 ∈ way := by
          rw [List.getD_eq_getElem?_getD, List.getElem?_eq_getElem hi]
          exact List.getElem_mem hi
        have := List.any_eq_false.1 ha _ hm
        exact strB_iff.1 (by simpa using this)
      unfold draughts_Text_J1
      have key : loop (draughts_Text_L1 way) (([] : List (List UInt8)), 0) = some (way.map pt) := by
        refine loop_from (fun i => ((way.take i).map pt, (i : Int))) way.length rfl (fun i hi => ?_) ?_
        · show (if (decide ((i : Int) < (way.length : Int))) then draughts_Text_J3 way ((way.take i).map pt) (i : Int) else some (.done ((way.take i).map pt))) = _
          rw [if_pos (decide_eq_true (by omega))]
          obtain ⟨h1, h2⟩ := hall i hi
          unfold draughts_Text_J3 draughts_Text_J4 strconv_Itoa_m bigP
          rw [asrt_pos (by omega), geti_at hi, asrt_pos (by omega), Option.bind_some, asrt_pos (by rw [List.length_map, List.length_take]; omega), wsum i (by omega), take_snoc hi, List.map_append]
          have e : itoaL (way.getD i 0) = pt (way.getD i 0) := by
            unfold pt
            have : (way.getD i 0) = (((way.getD i 0).toNat : Nat) : Int) := by omega
            conv => lhs; rw [this]
            exact itoa_D1 (by omega)
          rw [e]
          rfl
        · show (if (decide ((way.length : Int) < (way.length : Int))) then draughts_Text_J3 way ((way.take way.length).map pt) (way.length : Int) else some (.done ((way.take way.length).map pt))) = _
          rw [if_neg (by simp), List.take_length]
      rw [key, Option.bind_some]
      show draughts_Text_J2 jump (way.map pt) = _
      have w1 := wt_len 120 way
      have w2 := wt_len 45 way
      have j1 : joinM (way.map pt) [120] = wt 120 way := rfl
      have j2 : joinM (way.map pt) [45] = wt 45 way := rfl
      unfold draughts_Text_J2 draughts_Text_J5 strings_Join_m
      rw [j1, j2, asrt_pos (by rw [List.length_map]; omega), asrt_pos (by rw [List.length_map]; omega)]
      cases jump <;> rfl
theorem WayText_p {jump : Bool} (hw : way.length ≤ 1048576) : gameroomref_WayText_m way jump = some (if way.length < 2 then ([], 1) else if way.any strB = true then ([], 3) else (wt (if jump = true then 120 else 45) way, 0)) := by
  unfold gameroomref_WayText_m
  by_cases q : way.length < 2
  · rw [if_pos (by simp; omega), if_pos q]
  · rw [if_neg (by simp; omega), if_neg q]
    unfold gameroomref_WayText_J1
    obtain ⟨r, hr, hP⟩ := count_loop (step := gameroomref_WayText_L1 way jump) (fun (s : List UInt8) i => (s, ((i : Nat) : Int))) (fun i s => s = wt (if jump = true then 120 else 45) (way.take i) ∧ ∀ k : Nat, k < i → strB (way.getD k 0) = false)
      (fun r => (way.any strB = true ∧ r = .ret ([], 3)) ∨ (way.any strB = false ∧ r = .go (wt (if jump = true then 120 else 45) way))) way.length [] ⟨rfl, fun k hk => absurd hk (Nat.not_lt_zero _)⟩
      (fun i s hi hI => by
        obtain ⟨rfl, hI⟩ := hI
        have hm : way.getD i 0 ∈ way := by
          rw [List.getD_eq_getElem?_getD, List.getElem?_eq_getElem hi]
          exact List.getElem_mem hi
        have hstr : (!((decide ((1 : Int) ≤ way.getD i 0)) && (decide (way.getD i 0 ≤ 32)))) = strB (way.getD i 0) := by
          cases hs : strB (way.getD i 0) with
          | false =>
            have := strB_iff.1 hs
            rw [decide_eq_true this.1, decide_eq_true this.2]; rfl
          | true =>
            have : ¬ (1 ≤ way.getD i 0 ∧ way.getD i 0 ≤ 32) := fun e => by rw [strB_iff.2 e] at hs; cases hs
            by_cases e1 : (1 : Int) ≤ way.getD i 0
            · rw [decide_eq_true e1, decide_eq_false (fun e2 => this ⟨e1, e2⟩)]; rfl
            · rw [decide_eq_false e1]; rfl
        have hst0 : gameroomref_WayText_L1 way jump (wt (if jump = true then 120 else 45) (way.take i), ((i : Nat) : Int)) = if strB (way.getD i 0) = true then some (.done (.ret ([], 3))) else gameroomref_WayText_J5 way jump (wt (if jump = true then 120 else 45) (way.take i)) (i : Int) := by
          show (if (decide ((i : Int) < (way.length : Int))) then gameroomref_WayText_J3 way jump (wt (if jump = true then 120 else 45) (way.take i)) (i : Int) else some (.done (.go (wt (if jump = true then 120 else 45) (way.take i))))) = _
          rw [if_pos (decide_eq_true (by omega))]
          unfold gameroomref_WayText_J3 gameroomref_within_m
          rw [asrt_pos (by omega), geti_at hi, Option.bind_some, hstr]
        rw [hst0]
        cases hs : strB (way.getD i 0) with
        | true => exact .inr ⟨_, if_pos rfl, .inl ⟨List.any_eq_true.2 ⟨_, hm, hs⟩, rfl⟩⟩
        | false =>
          left
          have h12 := strB_iff.1 hs
          refine ⟨wt (if jump = true then 120 else 45) (way.take (i + 1)), ?_, rfl, fun k hk => ?_⟩
          · rw [if_neg (by decide)]
            have hl : (wt (if jump = true then 120 else 45) (way.take i)).length ≤ 3 * i := by
              have := wt_len (if jump = true then 120 else 45) (way.take i)
              rw [List.length_take, Nat.min_eq_left (by omega)] at this
              exact this
            have hdec : gameroomref_Dec_m (geti way (i : Int)) = some (pt (way.getD i 0)) := by
              rw [geti_at hi]
              unfold pt
              have e : (way.getD i 0) = (((way.getD i 0).toNat : Nat) : Int) := by omega
              conv => lhs; rw [e]
              exact Dec_p (by omega)
            have hpl := pt_len (way.getD i 0)
            have fin : ∀ x : List UInt8, x.length ≤ 3 * i + 1 → gameroomref_WayText_J7 way (i : Int) x = some (.next (x ++ pt (way.getD i 0), ((i + 1 : Nat) : Int))) := by
              intro x hx
              unfold gameroomref_WayText_J7 gameroomref_WayText_J4 bigN
              rw [asrt_pos (by omega), hdec, Option.bind_some, asrt_pos (by omega), wsum i (by omega)]
              rfl
            by_cases h0 : i = 0
            · subst h0
              unfold gameroomref_WayText_J5 gameroomref_WayText_J6
              rw [if_neg (by simp), if_neg (by simp), fin _ (by omega)]
              congr 2
              rw [take_snoc hi]
              unfold wt
              simp [Lib.join_nil, Lib.join_one]
            · have hne : (way.take i).map pt ≠ [] := by
                intro e
                have := congrArg List.length e
                rw [List.length_map, List.length_take, Nat.min_eq_left (by omega), List.length_nil] at this
                omega
              have hsn : wt (if jump = true then 120 else 45) (way.take (i + 1)) = wt (if jump = true then 120 else 45) (way.take i) ++ [if jump = true then 120 else 45] ++ pt (way.getD i 0) := by
                unfold wt
                rw [take_snoc hi, List.map_append]
                exact join_snoc hne
              rw [hsn]
              generalize wt (if jump = true then 120 else 45) (way.take i) = X at *
              have hi0 : decide ((0 : Int) < (i : Int)) = true := decide_eq_true (by omega)
              unfold gameroomref_WayText_J5 gameroomref_WayText_J6 bigN
              rw [hi0]
              cases jump with
              | true =>
                rw [if_pos (by decide), asrt_pos (by simp only [List.length_cons, List.length_nil]; omega), if_neg (by decide), fin _ (by simp only [List.length_append, List.length_cons, List.length_nil]; omega)]
                rfl
              | false =>
                rw [if_neg (by decide), if_pos (by decide), asrt_pos (by simp only [List.length_cons, List.length_nil]; omega), fin _ (by simp only [List.length_append, List.length_cons, List.length_nil]; omega)]
                rfl
          · by_cases e : k = i
            · subst e; exact hs
            · exact hI k (by omega))
      (fun s hI => by
        obtain ⟨rfl, hI⟩ := hI
        refine ⟨.go (wt (if jump = true then 120 else 45) way), ?_, .inr ⟨?_, rfl⟩⟩
        · show (if (decide ((way.length : Int) < (way.length : Int))) then gameroomref_WayText_J3 way jump (wt (if jump = true then 120 else 45) (way.take way.length)) (way.length : Int) else some (.done (.go (wt (if jump = true then 120 else 45) (way.take way.length))))) = _
          rw [if_neg (by simp), List.take_length]
        · rw [List.any_eq_false]
          intro x hx e
          obtain ⟨k, hk, rfl⟩ := List.getElem_of_mem hx
          have := hI k hk
          rw [List.getD_eq_getElem?_getD, List.getElem?_eq_getElem hk] at this
          simp only [Option.getD_some] at this
          rw [this] at e
          cases e)
    have hr' : loop (gameroomref_WayText_L1 way jump) (([] : List UInt8), 0) = some r := hr
    rw [hr', Option.bind_some]
    rcases hP with ⟨h1, rfl⟩ | ⟨h1, rfl⟩
    · rw [h1]; rfl
    · rw [h1]; rfl
theorem same_refl (a : List Int) (ha : a.length ≤ 4000000) : gameroomlaw_sameInts_m a a = some true := by
  unfold gameroomlaw_sameInts_m gameroomlaw_sameInts_J1
  rw [if_neg (by simp)]
  have key : loop (gameroomlaw_sameInts_L1 a a) 0 = some (Fl.go ()) := by
    refine loop_from (fun i => ((i : Nat) : Int)) a.length rfl (fun i hi => ?_) ?_
    · show (if (decide ((i : Int) < (a.length : Int))) then gameroomlaw_sameInts_J3 a a (i : Int) else some (.done (.go ()))) = _
      rw [if_pos (decide_eq_true (by omega))]
      unfold gameroomlaw_sameInts_J3 gameroomlaw_sameInts_J4
      rw [asrt_pos (by omega), asrt_pos (by omega), if_neg (by simp), wsum i (by omega)]
      rfl
    · show (if (decide ((a.length : Int) < (a.length : Int))) then gameroomlaw_sameInts_J3 a a (a.length : Int) else some (.done (.go ()))) = _
      rw [if_neg (by simp)]
  rw [key, Option.bind_some]
  rfl
/-- The document's answer to a text. -/
theorem ReadWay_p {text : List UInt8} (ht : text.length ≤ 1048576) : gameroomref_ReadWay_m text = some (match refM text [] false false 0 0 with
    | none => ([], false, 1)
    | some (w, j, s) => if (j && s) = true ∨ w.length < 2 then ([], false, 1) else if w.any strB = true then ([], false, 3) else (w, j, 0)) := by
  have hl := ref_loop ht text 0 [] false false 0 0 rfl (Nat.zero_le _) (Nat.zero_le _) (Nat.le_refl _) (by omega)
  unfold gameroomref_ReadWay_m
  have hl' : loop (gameroomref_ReadWay_L1 text) (([] : List Int), false, false, 0, 0, 0) = some (flOf (refM text [] false false 0 0)) := hl
  rw [hl', Option.bind_some]
  cases h : refM text [] false false 0 0 with
  | none => rfl
  | some x =>
    obtain ⟨w, j, s⟩ := x
    show gameroomref_ReadWay_J1 w j s = some (if (j && s) = true ∨ w.length < 2 then ([], false, 1) else if w.any strB = true then ([], false, 3) else (w, j, 0))
    have hwl : w.length ≤ text.length + 1 := by
      have key : ∀ (t : List UInt8) (way w : List Int) (j s j' s' : Bool) (n d : Nat), refM t way j s n d = some (w, j', s') → w.length ≤ way.length + t.length + 1 := by
        intro t
        induction t with
        | nil =>
          intro way w j s j' s' n d h
          unfold refM at h
          split at h
          · cases h
          · simp only [Option.some.injEq, Prod.mk.injEq] at h
            obtain ⟨rfl, _, _⟩ := h
            simp
        | cons b t ih =>
          intro way w j s j' s' n d h
          unfold refM at h
          split at h
          · split at h
            · cases h
            · have := ih _ _ _ _ _ _ _ _ h
              simp only [List.length_cons]
              omega
          · split at h
            · cases h
            · have := ih _ _ _ _ _ _ _ _ h
              simp only [List.length_append, List.length_cons, List.length_nil] at this ⊢
              omega
      have := key _ _ _ _ _ _ _ _ _ h
      simpa using this
    unfold gameroomref_ReadWay_J1
    by_cases q : (j && s) = true ∨ w.length < 2
    · rw [if_pos (by rw [Bool.or_eq_true, decide_eq_true_eq]; exact q.imp id (fun e => by omega)), if_pos q]
    · rw [if_neg (by rw [Bool.or_eq_true, decide_eq_true_eq]; exact fun e => q (e.imp id (fun e => by omega))), if_neg q]
      unfold gameroomref_ReadWay_J9
      have key : loop (gameroomref_ReadWay_L2 w) 0 = some (match w.findIdx? strB with | some _ => Fl.ret ([], false, 3) | none => Fl.go ()) := by
        have hstr : ∀ x : Int, (!((decide ((1 : Int) ≤ x)) && (decide (x ≤ 32)))) = strB x := fun x => by
          cases hs : strB x with
          | false =>
            have := strB_iff.1 hs
            rw [decide_eq_true this.1, decide_eq_true this.2]; rfl
          | true =>
            have : ¬ (1 ≤ x ∧ x ≤ 32) := fun e => by rw [strB_iff.2 e] at hs; cases hs
            by_cases e1 : (1 : Int) ≤ x
            · rw [decide_eq_true e1, decide_eq_false (fun e2 => this ⟨e1, e2⟩)]; rfl
            · rw [decide_eq_false e1]; rfl
        refine search_loop (p := strB) (fun _ => Fl.ret (([] : List Int), false, (3 : Int))) (Fl.go ()) (fun i x hx hp => ?_) (fun i x hx hp => ?_) ?_
        · have hi := (List.getElem?_eq_some_iff.1 hx).1
          have hg : geti w (i : Int) = x := by rw [geti_nat, List.getD_eq_getElem?_getD, hx]; rfl
          show (if (decide ((i : Int) < (w.length : Int))) then gameroomref_ReadWay_J11 w (i : Int) else some (.done (.go ()))) = _
          rw [if_pos (decide_eq_true (by omega))]
          unfold gameroomref_ReadWay_J11 gameroomref_within_m
          rw [asrt_pos (by omega), hg, Option.bind_some, hstr, if_pos hp]
        · have hi := (List.getElem?_eq_some_iff.1 hx).1
          have hg : geti w (i : Int) = x := by rw [geti_nat, List.getD_eq_getElem?_getD, hx]; rfl
          show (if (decide ((i : Int) < (w.length : Int))) then gameroomref_ReadWay_J11 w (i : Int) else some (.done (.go ()))) = _
          rw [if_pos (decide_eq_true (by omega))]
          unfold gameroomref_ReadWay_J11 gameroomref_within_m gameroomref_ReadWay_J12
          rw [asrt_pos (by omega), hg, Option.bind_some, hstr, if_neg (by rw [hp]; decide), wsum i (by omega)]
        · show (if (decide ((w.length : Int) < (w.length : Int))) then gameroomref_ReadWay_J11 w (w.length : Int) else some (.done (.go ()))) = _
          rw [if_neg (by simp)]
      rw [key, Option.bind_some]
      cases hf : w.findIdx? strB with
      | none =>
        rw [List.findIdx?_eq_none_iff] at hf
        have : w.any strB = false := by
          rw [List.any_eq_false]
          intro x hx e
          rw [hf x hx] at e
          cases e
        rw [this]
        rfl
      | some i =>
        obtain ⟨h1, h2, _⟩ := List.findIdx?_eq_some_iff_getElem.1 hf
        have : w.any strB = true := List.any_eq_true.2 ⟨w[i], List.getElem_mem h1, h2⟩
        rw [this]
        rfl
/-- The numbers, alike or strange on both sides. -/
theorem vals_nums : ∀ {ps : List (List UInt8)}, ps.all okP = true → (ps.map valP).any strB = (ps.map numP).any strB ∧ ((ps.map numP).any strB = false → ps.map valP = ps.map numP)
  | [], _ => ⟨rfl, fun _ => rfl⟩
  | p :: ps, h => by
    rw [List.all_cons, Bool.and_eq_true] at h
    obtain ⟨h1, h2⟩ := vals_nums h.2
    simp only [List.map_cons, List.any_cons]
    rcases val_num h.1 with e | ⟨e1, e2⟩
    · rw [e, h1]
      refine ⟨rfl, fun hf => ?_⟩
      rw [Bool.or_eq_false_iff] at hf
      rw [h2 hf.2]
    · have s1 : strB (valP p) = true := by unfold strB; rw [Bool.or_eq_true]; right; exact decide_eq_true e1
      have s2 : strB (numP p) = true := by unfold strB; rw [Bool.or_eq_true]; right; exact decide_eq_true e2
      rw [s1, s2]
      exact ⟨rfl, fun hf => by cases hf⟩
theorem read_same {text : List UInt8} (ht : text.length ≤ 1048576) : draughts_Read_m text = gameroomref_ReadWay_m text ∧ ∃ r, gameroomref_ReadWay_m text = some r ∧ r.1.length ≤ 2000000 := by
  rw [Read_p ht, ReadWay_p ht]
  have base : ∀ c o : UInt8, ((c = 45 ∧ o = 120) ∨ (c = 120 ∧ o = 45)) → o ∉ text → (c = 120 ↔ 120 ∈ text) →
      some (readP c text) = some (match refM text [] false false 0 0 with
        | none => ([], false, 1)
        | some (w, j, s) => if (j && s) = true ∨ w.length < 2 then ([], false, 1) else if w.any strB = true then ([], false, 3) else (w, j, 0)) ∧ (readP c text).1.length ≤ 2000000 := by
    intro c o hco ho hc
    have hl := spC_len c text
    have hcl := List.count_le_length (a := c) (l := text)
    rw [refM_all hco text.length text [] false false (Nat.le_refl _) ho]
    unfold readP
    cases ha : (spC c text).all okP with
    | false => exact ⟨by rw [if_neg (by decide), if_neg (by decide)], by rw [if_neg (by decide)]; simp⟩
    | true =>
      obtain ⟨v1, v2⟩ := vals_nums ha
      rw [if_pos rfl, if_pos rfl]
      simp only [Bool.false_or, List.nil_append, List.length_map]
      have hj : (c == 120 && decide (c ∈ text)) = (c == 120) := by
        by_cases e : c = 120
        · have := hc.1 e
          subst e
          rw [decide_eq_true this]; rfl
        · rw [beq_eq_false_iff_ne.2 e]; rfl
      have hjs : ¬ ((c == 120 && decide (c ∈ text)) && (c == 45 && decide (c ∈ text))) = true := by
        rcases hco with ⟨rfl, _⟩ | ⟨rfl, _⟩ <;> simp
      by_cases q : (spC c text).length < 2
      · rw [if_pos q, if_pos (.inr q)]
        exact ⟨rfl, by simp⟩
      · rw [if_neg q, v1, if_neg (show ¬ (((c == 120 && decide (c ∈ text)) && (c == 45 && decide (c ∈ text))) = true ∨ (spC c text).length < 2) from fun e => e.elim hjs q), hj]
        cases hs : ((spC c text).map numP).any strB with
        | true => exact ⟨rfl, by simp⟩
        | false =>
          rw [if_neg (by decide), if_neg (by decide), v2 hs]
          exact ⟨rfl, by simp only [List.length_map]; omega⟩
  by_cases h1 : (120 : UInt8) ∈ text
  · rw [if_pos h1]
    by_cases h2 : (45 : UInt8) ∈ text
    · -- both signs
      obtain ⟨p, hp, hxp⟩ := mem_piece (c := 120) (x := 45) (by decide) h2
      have hbad : (spC 120 text).all okP = false := by
        cases ha : (spC 120 text).all okP with
        | false => rfl
        | true =>
          have := List.all_eq_true.1 ha p hp
          have := List.all_eq_true.1 (okP_iff.1 this).2.1 45 hxp
          exact absurd this (by decide)
      have hr : readP 120 text = ([], false, 1) := by unfold readP; rw [hbad, if_neg (by decide)]
      rw [hr]
      cases hm : refM text [] false false 0 0 with
      | none => exact ⟨rfl, _, rfl, by simp⟩
      | some x =>
        obtain ⟨w, j, s⟩ := x
        obtain ⟨e1, e2⟩ := refM_signs _ _ _ _ _ _ _ _ _ hm
        rw [decide_eq_true h1] at e1
        rw [decide_eq_true h2] at e2
        subst e1 e2
        exact ⟨rfl, _, rfl, by simp⟩
    · obtain ⟨b1, b2⟩ := base 120 45 (.inr ⟨rfl, rfl⟩) h2 ⟨fun _ => h1, fun _ => rfl⟩
      exact ⟨b1, _, b1.symm, b2⟩
  · rw [if_neg h1]
    obtain ⟨b1, b2⟩ := base 45 120 (.inl ⟨rfl, rfl⟩) h1 ⟨fun e => absurd e (by decide), fun e => absurd e h1⟩
    exact ⟨b1, _, b1.symm, b2⟩

theorem true_DraughtsTexts (way : List Int) (jump : Bool) (text : List UInt8) (hw : way.length ≤ 1048576) (ht : text.length ≤ 1048576) : gameroomlaw_DraughtsTexts_m way jump text = some true := by
  unfold gameroomlaw_DraughtsTexts_m
  have hi : gameroomlaw_ints_m way = some way := by
    unfold gameroomlaw_ints_m
    rw [asrt_pos (by unfold bigN; omega), List.nil_append]
  obtain ⟨h1, r, h2, h3⟩ := read_same ht
  rw [hi, Option.bind_some, Text_p hw, Option.bind_some, h1, h2, Option.bind_some, WayText_p hw, Option.bind_some, Option.bind_some]
  simp only [beq_self_eq_true, Bool.and_self, if_true]
  rw [same_refl _ (by omega), Option.bind_some]
  rfl
end Go.Proofs.YtdbdcbejmbpbmaaDoor
