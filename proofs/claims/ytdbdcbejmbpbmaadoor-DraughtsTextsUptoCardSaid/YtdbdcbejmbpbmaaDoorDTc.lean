/-
  DraughtsTexts: the document reads a way.
-/
import Derived.Test.YtdbdcbejmbpbmaaDoorDTb
namespace Go.Proofs.YtdbdcbejmbpbmaaDoor
open Go Go.GL

/-- The document's reading, sign by sign. -/
def refM : List UInt8 → List Int → Bool → Bool → Nat → Nat → Option (List Int × Bool × Bool)
  | [], way, j, s, n, d => if d = 0 then none else some (way ++ [(n : Int)], j, s)
  | b :: l, way, j, s, n, d =>
    if isD b = true then (if d = 0 ∧ b = 48 then none else refM l way j s (if n < 1000 then 10 * n + (b.toNat - 48) else n) (d + 1))
    else if d = 0 ∨ (b ≠ 45 ∧ b ≠ 120) then none else refM l (way ++ [(n : Int)]) (j || b == 120) (s || b == 45) 0 0

def flOf (o : Option (List Int × Bool × Bool)) : Fl (List Int × Bool × Bool) (List Int × Bool × Int) := match o with | none => .ret ([], false, 1) | some x => .go x
theorem u8i {b : UInt8} {k : UInt8} : ((b.toNat : Int) == (k.toNat : Int)) = (b == k) := by
  by_cases h : b = k
  · subst h; simp
  · have : ¬ ((b.toNat : Int) = (k.toNat : Int)) := fun e => h (UInt8.toNat_inj.1 (by omega))
    rw [beq_eq_false_iff_ne.2 h, beq_eq_false_iff_ne.2 this]
theorem ref_loop {text : List UInt8} (ht : text.length ≤ 1048576) : ∀ (l : List UInt8) (i : Nat) (way : List Int) (j s : Bool) (n d : Nat), text.drop i = l → i ≤ text.length → way.length ≤ i → d ≤ i → n ≤ 99999 →
    loop (gameroomref_ReadWay_L1 text) (way, j, s, (n : Int), (d : Int), (i : Int)) = some (flOf (refM l way j s n d))
  | [], i, way, j, s, n, d, hl, hi, hw, hd, hn => by
    have hie : i = text.length := by
      have := congrArg List.length hl
      simp at this
      omega
    have st : gameroomref_ReadWay_L1 text (way, j, s, (n : Int), (d : Int), (i : Int)) = if d = 0 then some (.done (.ret ([], false, 1))) else some (.next (way ++ [(n : Int)], j, s, 0, 0, ((i + 1 : Nat) : Int))) := by
      show (if (decide ((i : Int) ≤ (text.length : Int))) then gameroomref_ReadWay_J2 text way j s (n : Int) (d : Int) (i : Int) else some (.done (.go (way, j, s)))) = _
      rw [if_pos (decide_eq_true (by omega))]
      unfold gameroomref_ReadWay_J2
      have hf : decide ((i : Int) < (text.length : Int)) = false := decide_eq_false (by omega)
      rw [hf, asrt_pos (fun h => by cases h), if_neg (by decide), Option.bind_some]
      simp only [Bool.false_and, Bool.false_eq_true, if_false]
      unfold gameroomref_ReadWay_J4
      rw [hf]
      simp only [Bool.false_and, Bool.or_false]
      rw [asrt_pos (fun h => by cases h), asrt_pos (fun h => by cases h)]
      by_cases q : d = 0
      · rw [if_pos (by simp [q]), if_pos q]
      · rw [if_neg (by simp [q]), if_neg q]
        unfold gameroomref_ReadWay_J7 gameroomref_ReadWay_J8 gameroomref_ReadWay_J3 bigN
        rw [hf, if_neg (by decide), asrt_pos (by omega), wsum i (by omega)]
        rfl
    unfold refM
    by_cases q : d = 0
    · rw [if_pos q] at st ⊢
      exact loop_done st
    · rw [if_neg q] at st ⊢
      refine loop_next' st (loop_done ?_)
      show (if (decide (((i + 1 : Nat) : Int) ≤ (text.length : Int))) then gameroomref_ReadWay_J2 text (way ++ [(n : Int)]) j s 0 0 ((i + 1 : Nat) : Int) else some (.done (.go (way ++ [(n : Int)], j, s)))) = _
      rw [if_neg (by simp; omega)]
      rfl
  | b :: l, i, way, j, s, n, d, hl, hi, hw, hd, hn => by
    have hlt : i < text.length := by
      have := congrArg List.length hl
      simp at this
      omega
    have hb : text[i]? = some b := by
      have := congrArg (fun l => l[0]?) hl
      simpa using this
    have hu : getU text (i : Int) = (b.toNat : Int) := by
      unfold getU
      rw [Int.toNat_natCast, List.getD_eq_getElem?_getD, hb]
      rfl
    have hdr : text.drop (i + 1) = l := by
      rw [← List.drop_drop, hl]; rfl
    have hbl := b.toNat_lt
    have w8 : w64 (b.toNat : Int) = (b.toNat : Int) := w64_of (by omega)
    have hT : decide ((i : Int) < (text.length : Int)) = true := decide_eq_true (by omega)
    have hD : (decide ((48 : Int) ≤ (b.toNat : Int)) && decide ((b.toNat : Int) ≤ 57)) = isD b := by
      unfold isD
      congr 1
      · by_cases q : 48 ≤ b.toNat
        · rw [decide_eq_true q, decide_eq_true (by omega)]
        · rw [decide_eq_false q, decide_eq_false (by omega)]
      · by_cases q : b.toNat ≤ 57
        · rw [decide_eq_true q, decide_eq_true (by omega)]
        · rw [decide_eq_false q, decide_eq_false (by omega)]
    have hstart : gameroomref_ReadWay_L1 text (way, j, s, (n : Int), (d : Int), (i : Int)) = if isD b = true then (if ((d : Int) == 0 && (b == 48)) = true then some (.done (.ret ([], false, 1))) else gameroomref_ReadWay_J5 text way j s (n : Int) (d : Int) (i : Int)) else gameroomref_ReadWay_J4 text way j s (n : Int) (d : Int) (i : Int) := by
      show (if (decide ((i : Int) ≤ (text.length : Int))) then gameroomref_ReadWay_J2 text way j s (n : Int) (d : Int) (i : Int) else some (.done (.go (way, j, s)))) = _
      rw [if_pos (decide_eq_true (by omega))]
      unfold gameroomref_ReadWay_J2 gameroomref_within_m
      rw [hT, asrt_pos (fun _ => by omega), if_pos rfl, hu, w8, Option.bind_some, hD, Bool.true_and]
      cases isD b with
      | true =>
        rw [if_pos rfl, if_pos rfl, asrt_pos (fun _ => by omega), show ((b.toNat : Int) == 48) = (b == 48) from u8i (k := 48)]
      | false => rw [if_neg (by decide), if_neg (by decide)]
    cases hdig : isD b with
    | true =>
      rw [hdig, if_pos rfl] at hstart
      have hb9 := isD_iff.1 hdig
      unfold refM
      rw [hdig, if_pos rfl]
      by_cases q : d = 0 ∧ b = 48
      · rw [if_pos (by simp [q])] at hstart
        rw [if_pos q]
        exact loop_done hstart
      · have q' : ¬ ((d : Int) == 0 && (b == 48)) = true := fun e => q (by
          rw [Bool.and_eq_true] at e
          exact ⟨by have := beq_iff_eq.1 e.1; omega, beq_iff_eq.1 e.2⟩)
        rw [if_neg q'] at hstart
        rw [if_neg q]
        have st : gameroomref_ReadWay_J5 text way j s (n : Int) (d : Int) (i : Int) = some (.next (way, j, s, ((if n < 1000 then 10 * n + (b.toNat - 48) else n : Nat) : Int), ((d + 1 : Nat) : Int), ((i + 1 : Nat) : Int))) := by
          unfold gameroomref_ReadWay_J5 gameroomref_ReadWay_J6 gameroomref_ReadWay_J3
          rw [wsum i (by omega), wsum d (by omega)]
          by_cases q2 : n < 1000
          · have hwr : IntKind.wrap .u8 ((b.toNat : Int) - 48) = (b.toNat : Int) - 48 := by
              have : ∀ k < 10, IntKind.wrap .u8 ((k : Nat) : Int) = (k : Int) := by decide +kernel
              have h1 := this (b.toNat - 48) (by omega)
              rw [show (b.toNat : Int) - 48 = ((b.toNat - 48 : Nat) : Int) by omega]
              exact h1
            rw [if_pos (decide_eq_true (by omega)), asrt_pos (by omega), hu, hwr, if_pos q2, w64_of (x := 10 * (n : Int)) (by omega), w64_of (x := (b.toNat : Int) - 48) (by omega), w64_of (by omega)]
            congr 2
            simp only [Prod.mk.injEq, true_and]
            omega
          · rw [if_neg (by simp; omega), if_neg q2]
            rfl
        rw [st] at hstart
        refine loop_next' hstart (ref_loop ht l (i + 1) way j s _ (d + 1) hdr (by omega) (by omega) (by omega) ?_)
        split <;> omega
    | false =>
      rw [hdig, if_neg (by decide)] at hstart
      unfold refM
      rw [hdig, if_neg (by decide)]
      have st : gameroomref_ReadWay_J4 text way j s (n : Int) (d : Int) (i : Int) = if d = 0 ∨ (b ≠ 45 ∧ b ≠ 120) then some (.done (.ret ([], false, 1))) else some (.next (way ++ [(n : Int)], (j || b == 120), (s || b == 45), 0, 0, ((i + 1 : Nat) : Int))) := by
        unfold gameroomref_ReadWay_J4
        rw [hT, hu, asrt_pos (fun _ _ => by omega), asrt_pos (fun _ _ => by omega)]
        have e1 : ((b.toNat : Int) != 45) = (b != 45) := by unfold bne; rw [show ((b.toNat : Int) == 45) = (b == 45) from u8i (k := 45)]
        have e2 : ((b.toNat : Int) != 120) = (b != 120) := by unfold bne; rw [show ((b.toNat : Int) == 120) = (b == 120) from u8i (k := 120)]
        rw [e1, e2]
        by_cases q : d = 0 ∨ (b ≠ 45 ∧ b ≠ 120)
        · rw [if_pos q, if_pos]
          rcases q with q | q
          · subst q; rfl
          · simp [q.1, q.2]
        · rw [if_neg q, if_neg]
          · unfold gameroomref_ReadWay_J7 gameroomref_ReadWay_J8 gameroomref_ReadWay_J3 bigN
            rw [hT, if_pos rfl, asrt_pos (fun _ => by omega), asrt_pos (fun _ => by omega), asrt_pos (by omega), hu, wsum i (by omega), show ((b.toNat : Int) == 120) = (b == 120) from u8i (k := 120), show ((b.toNat : Int) == 45) = (b == 45) from u8i (k := 45)]
            rfl
          · intro e
            rw [Bool.or_eq_true, Bool.true_and, Bool.and_eq_true, bne_iff_ne, bne_iff_ne] at e
            refine q (e.imp (fun h => ?_) id)
            have := beq_iff_eq.1 h
            omega
      rw [st] at hstart
      by_cases q : d = 0 ∨ (b ≠ 45 ∧ b ≠ 120)
      · rw [if_pos q] at hstart ⊢
        exact loop_done hstart
      · rw [if_neg q] at hstart ⊢
        exact loop_next' hstart (ref_loop ht l (i + 1) (way ++ [(n : Int)]) _ _ 0 0 hdr (by omega) (by simp; omega) (by omega) (by omega))

theorem refM_digits : ∀ (p l : List UInt8) (way : List Int) (j s : Bool) (n d : Nat), p.all isD = true → refM (p ++ l) way j s n d = if d = 0 ∧ p ≠ [] ∧ p.getD 0 0 = 48 then none else refM l way j s (capD n p) (d + p.length)
  | [], l, way, j, s, n, d, _ => by
    rw [if_neg (fun h => h.2.1 rfl)]
    rfl
  | b :: p, l, way, j, s, n, d, h => by
    rw [List.all_cons, Bool.and_eq_true] at h
    rw [List.cons_append]
    conv => lhs; unfold refM
    rw [if_pos h.1]
    by_cases q : d = 0 ∧ b = 48
    · rw [if_pos q, if_pos ⟨q.1, by simp, by simpa using q.2⟩]
    · rw [if_neg q, refM_digits p l way j s _ (d + 1) h.2, if_neg (fun e => by omega), if_neg (show ¬ (d = 0 ∧ b :: p ≠ [] ∧ (b :: p).getD 0 0 = 48) from fun e => q ⟨e.1, by simpa using e.2.2⟩), List.length_cons, show d + 1 + p.length = d + (p.length + 1) by omega]
      rfl
/-- A piece that is no number. -/
theorem refM_bad : ∀ (p l : List UInt8) (way : List Int) (j s : Bool) (n d : Nat), p.all isD = false → 45 ∉ p → 120 ∉ p → refM (p ++ l) way j s n d = none
  | [], _, _, _, _, _, _, h, _, _ => by cases h
  | b :: p, l, way, j, s, n, d, h, h1, h2 => by
    rw [List.cons_append]
    conv => lhs; unfold refM
    cases hb : isD b with
    | true =>
      rw [List.all_cons, hb, Bool.true_and] at h
      rw [if_pos rfl]
      split
      · rfl
      · exact refM_bad p l way j s _ _ h (fun e => h1 (List.mem_cons_of_mem _ e)) (fun e => h2 (List.mem_cons_of_mem _ e))
    | false =>
      rw [if_neg (by decide), if_pos]
      right
      exact ⟨fun e => h1 (by rw [e]; exact List.mem_cons_self ..), fun e => h2 (by rw [e]; exact List.mem_cons_self ..)⟩
theorem okP_iff {p : List UInt8} : okP p = true ↔ p ≠ [] ∧ p.all isD = true ∧ p.getD 0 0 ≠ 48 := by
  unfold okP
  rw [Bool.and_eq_true, Bool.and_eq_true, Bool.not_eq_true', beq_eq_false_iff_ne, Bool.not_eq_true', beq_eq_false_iff_ne]
  exact ⟨fun h => ⟨h.1.1, h.1.2, h.2⟩, fun h => ⟨⟨h.1, h.2.1⟩, h.2.2⟩⟩
theorem refM_last {p : List UInt8} {way : List Int} {j s : Bool} (h1 : 45 ∉ p) (h2 : 120 ∉ p) : refM p way j s 0 0 = if okP p = true then some (way ++ [numP p], j, s) else none := by
  cases hd : p.all isD with
  | false =>
    have := refM_bad p [] way j s 0 0 hd h1 h2
    rw [List.append_nil] at this
    rw [this, if_neg (fun e => by rw [(okP_iff.1 e).2.1] at hd; cases hd)]
  | true =>
    have := refM_digits p [] way j s 0 0 hd
    rw [List.append_nil] at this
    rw [this]
    by_cases he : p = []
    · subst he
      rfl
    · have hl : 0 < p.length := List.length_pos_iff.2 he
      by_cases q : p.getD 0 0 = 48
      · rw [if_pos ⟨rfl, he, q⟩, if_neg (fun e => (okP_iff.1 e).2.2 q)]
      · rw [if_neg (fun e => q e.2.2), if_pos (okP_iff.2 ⟨he, hd, q⟩)]
        unfold refM
        rw [if_neg (by omega)]
        rfl
theorem refM_piece {p l : List UInt8} {c : UInt8} {way : List Int} {j s : Bool} (hc : c = 45 ∨ c = 120) (h1 : 45 ∉ p) (h2 : 120 ∉ p) : refM (p ++ c :: l) way j s 0 0 = if okP p = true then refM l (way ++ [numP p]) (j || c == 120) (s || c == 45) 0 0 else none := by
  cases hd : p.all isD with
  | false =>
    rw [refM_bad p (c :: l) way j s 0 0 hd h1 h2, if_neg (fun e => by rw [(okP_iff.1 e).2.1] at hd; cases hd)]
  | true =>
    have hcd : isD c = false := by rcases hc with rfl | rfl <;> rfl
    rw [refM_digits p (c :: l) way j s 0 0 hd]
    by_cases he : p = []
    · subst he
      rw [if_neg (fun h => h.2.1 rfl), if_neg (by decide)]
      unfold refM
      rw [hcd, if_neg (by decide), if_pos (.inl rfl)]
    · have hl : 0 < p.length := List.length_pos_iff.2 he
      by_cases q : p.getD 0 0 = 48
      · rw [if_pos ⟨rfl, he, q⟩, if_neg (fun e => (okP_iff.1 e).2.2 q)]
      · rw [if_neg (fun e => q e.2.2), if_pos (okP_iff.2 ⟨he, hd, q⟩)]
        conv => lhs; unfold refM
        rw [hcd, if_neg (by decide), if_neg]
        · rfl
        · rintro (e | e)
          · omega
          · rcases hc with rfl | rfl
            · exact e.1 rfl
            · exact e.2 rfl
/-- All pieces, where one sign alone parts them. -/
theorem refM_all {c o : UInt8} (hco : (c = 45 ∧ o = 120) ∨ (c = 120 ∧ o = 45)) (k : Nat) : ∀ (t : List UInt8) (way : List Int) (j s : Bool), t.length ≤ k → o ∉ t →
    refM t way j s 0 0 = if (spC c t).all okP = true then some (way ++ (spC c t).map numP, j || (c == 120 && decide (c ∈ t)), s || (c == 45 && decide (c ∈ t))) else none := by
  induction k with
  | zero =>
    intro t way j s hk ho
    have : t = [] := List.length_eq_zero_iff.1 (by omega)
    subst this
    rfl
  | succ k ih =>
    intro t way j s hk ho
    by_cases hc : c ∈ t
    · obtain ⟨a, r, rfl, ha⟩ := List.eq_append_cons_of_mem hc
      simp only [List.length_append, List.length_cons] at hk
      have hoa : o ∉ a := fun e => ho (List.mem_append.2 (.inl e))
      have hor : o ∉ r := fun e => ho (List.mem_append.2 (.inr (List.mem_cons_of_mem _ e)))
      have hcc : c = 45 ∨ c = 120 := by rcases hco with h | h <;> simp [h]
      have h45 : 45 ∉ a := by rcases hco with ⟨rfl, rfl⟩ | ⟨rfl, rfl⟩ <;> assumption
      have h120 : 120 ∉ a := by rcases hco with ⟨rfl, rfl⟩ | ⟨rfl, rfl⟩ <;> assumption
      rw [refM_piece hcc h45 h120, spC_app ha, List.all_cons]
      cases hok : okP a with
      | false => rw [if_neg (by decide), if_neg (by simp)]
      | true =>
        rw [if_pos rfl, ih r _ _ _ (by omega) hor, Bool.true_and]
        have hm : decide (c ∈ a ++ c :: r) = true := decide_eq_true hc
        rw [hm]
        cases (spC c r).all okP with
        | false => rfl
        | true =>
          rw [if_pos rfl, if_pos rfl]
          simp only [List.map_cons, List.append_assoc, List.singleton_append, Bool.and_true]
          rcases hco with ⟨rfl, rfl⟩ | ⟨rfl, rfl⟩ <;> simp
    · rw [spC_no hc]
      have h45 : 45 ∉ t := by rcases hco with ⟨rfl, rfl⟩ | ⟨rfl, rfl⟩ <;> assumption
      have h120 : 120 ∉ t := by rcases hco with ⟨rfl, rfl⟩ | ⟨rfl, rfl⟩ <;> assumption
      rw [refM_last h45 h120, decide_eq_false hc]
      simp
/-- Which signs were there. -/
theorem refM_signs : ∀ (t : List UInt8) (way w : List Int) (j s j' s' : Bool) (n d : Nat), refM t way j s n d = some (w, j', s') → j' = (j || decide (120 ∈ t)) ∧ s' = (s || decide (45 ∈ t))
  | [], way, w, j, s, j', s', n, d, h => by
    unfold refM at h
    split at h
    · cases h
    · simp only [Option.some.injEq, Prod.mk.injEq] at h
      obtain ⟨_, rfl, rfl⟩ := h
      simp
  | b :: t, way, w, j, s, j', s', n, d, h => by
    unfold refM at h
    split at h
    · rename_i hb
      split at h
      · cases h
      · obtain ⟨h1, h2⟩ := refM_signs t way w j s j' s' _ _ h
        have hb := isD_iff.1 hb
        have n1 : b ≠ 120 := fun e => by rw [e] at hb; exact absurd hb (by decide)
        have n2 : b ≠ 45 := fun e => by rw [e] at hb; exact absurd hb (by decide)
        rw [h1, h2]
        simp [Ne.symm n1, Ne.symm n2]
    · split at h
      · cases h
      · obtain ⟨h1, h2⟩ := refM_signs t _ w _ _ j' s' _ _ h
        rw [h1, h2]
        constructor
        · by_cases e : b = 120
          · subst e; simp
          · simp [Ne.symm e, beq_eq_false_iff_ne.2 e]
        · by_cases e : b = 45
          · subst e; simp
          · simp [Ne.symm e, beq_eq_false_iff_ne.2 e]
theorem mem_piece {c x : UInt8} (hx : x ≠ c) : ∀ {s : List UInt8}, x ∈ s → ∃ p ∈ spC c s, x ∈ p
  | b :: l, h => by
    have hne := spC_ne c l
    unfold spC
    rcases List.mem_cons.1 h with e | e
    · subst e
      rw [if_neg hx]
      exact ⟨_, List.mem_cons_self .., List.mem_cons_self ..⟩
    · obtain ⟨p, hp, hxp⟩ := mem_piece hx e
      by_cases q : b = c
      · rw [if_pos q]
        exact ⟨p, List.mem_cons_of_mem _ hp, hxp⟩
      · rw [if_neg q]
        cases hsp : spC c l with
        | nil => exact absurd hsp hne
        | cons y r =>
          rw [hsp] at hp
          rcases List.mem_cons.1 hp with e2 | e2
          · subst e2
            exact ⟨_, List.mem_cons_self .., List.mem_cons_of_mem _ hxp⟩
          · exact ⟨p, List.mem_cons_of_mem _ e2, hxp⟩
end Go.Proofs.YtdbdcbejmbpbmaaDoor
