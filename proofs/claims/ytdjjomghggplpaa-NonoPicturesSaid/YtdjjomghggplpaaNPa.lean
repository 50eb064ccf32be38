/-
  Lines of pictures: ways split at an open place, fewer ways where more is known, full lines and their clues; what is sure.
-/
import Derived.Test.YtdjjomghggplpaaNLc
namespace Go.Proofs.Ytdjjomghggplpaa
open Go Go.GL

theorem Zw_zero : ∀ (s : List Int) (i : Nat), s[i]? = some (-1) → Zw (s.set i 0) = Zw s
  | [], i, h => by simp at h
  | c :: r, 0, h => by
    simp only [List.getElem?_cons_zero, Option.some.injEq] at h
    subst h
    simp [Zw]
  | c :: r, i + 1, h => by
    have ih := Zw_zero r i (by simpa using h)
    simp [Zw, ih]

theorem fitL_set0 {L : Nat} {s : List Int} {i : Nat} (hi : s[i]? = some (-1)) (hne : ¬ i < L) : fitL L (s.set i 0) = fitL L s := by
  have hlt : i < s.length := (List.getElem?_eq_some_iff.1 hi).1
  unfold fitL
  rw [List.length_set, List.take_set_of_le (by omega)]
  congr 1
  by_cases e : i = L
  · subst e
    rw [List.getElem?_set_self hlt, hi]
    rfl
  · rw [List.getElem?_set_ne e]

theorem Wc_split {L : Nat} (hL : 1 ≤ L) {g : List Int → Nat} (hg : ∀ (s : List Int) (i : Nat), s[i]? = some (-1) → g s = g (s.set i 0) + g (s.set i 1)) :
    ∀ (s : List Int) (i : Nat), s[i]? = some (-1) → Wc L g s = Wc L g (s.set i 0) + Wc L g (s.set i 1)
  | [], i, h => by simp at h
  | c :: r, 0, h => by
    have hf := fitL_set (L := L) (s := c :: r) (i := 0) (by simp) (by rw [h]; decide) (by omega)
    have hz := fitL_zero (L := L) (s := 0 :: r) (i := 0) rfl (by omega)
    simp only [List.getElem?_cons_zero, Option.some.injEq] at h
    subst h
    rw [List.set_cons_zero] at hf
    rw [List.set_cons_zero, List.set_cons_zero]
    unfold Wc
    rw [hf, hz]
    simp
  | c :: r, i + 1, h => by
    have h' : r[i]? = some (-1) := by simpa using h
    have hlt : i < r.length := (List.getElem?_eq_some_iff.1 h').1
    have ih := Wc_split hL hg r i h'
    rw [List.set_cons_succ, List.set_cons_succ]
    unfold Wc
    rw [ih]
    have key : (if fitL L (c :: r) = true then g (r.drop L) else 0) = (if fitL L (c :: r.set i 0) = true then g ((r.set i 0).drop L) else 0) + (if fitL L (c :: r.set i 1) = true then g ((r.set i 1).drop L) else 0) := by
      by_cases e1 : i + 1 < L
      · have hf := fitL_set (L := L) (s := c :: r) (i := i + 1) (by simpa using hlt) (by rw [h]; decide) (by omega)
        have hz := fitL_zero (L := L) (s := c :: r.set i 0) (i := i + 1) (by simp [hlt]) e1
        rw [List.set_cons_succ] at hf
        have d0 : ∀ v : Int, (r.set i v).drop L = r.drop L := fun v => List.drop_set_of_lt (by omega)
        rw [hf, hz, d0, d0]
        simp
      · have hf0 := fitL_set0 (L := L) (s := c :: r) (i := i + 1) h e1
        rw [List.set_cons_succ] at hf0
        by_cases e2 : i + 1 = L
        · have hf := fitL_at (L := L) (s := c :: r) (by rw [← e2]; simpa using hlt)
          rw [← e2, List.set_cons_succ, e2] at hf
          rw [hf, hf0, List.drop_set_of_lt (by omega)]
          simp
        · have hf := fitL_set (L := L) (s := c :: r) (i := i + 1) (by simpa using hlt) (by rw [h]; decide) e2
          rw [List.set_cons_succ] at hf
          have d0 : ∀ v : Int, (r.set i v).drop L = (r.drop L).set (i - L) v := fun v => by rw [List.drop_set, if_neg (by omega)]
          rw [hf, hf0, d0, d0]
          split
          · exact hg _ _ (by rw [List.getElem?_drop, show L + (i - L) = i by omega]; exact h')
          · rfl
    rw [key]
    split <;> omega

theorem Ww_split : ∀ (cl : List Int), okC cl → ∀ (s : List Int) (i : Nat), s[i]? = some (-1) → Ww cl s = Ww cl (s.set i 0) + Ww cl (s.set i 1)
  | [], _, s, i, h => by
    have hlt : i < s.length := (List.getElem?_eq_some_iff.1 h).1
    show Zw s = Zw (s.set i 0) + Zw (s.set i 1)
    rw [Zw_one s i hlt, Zw_zero s i h]; rfl
  | L :: cl, hc, s, i, h => Wc_split (by have := hc L (by simp); omega) (Ww_split cl (fun x hx => hc x (by simp [hx]))) s i h

/-- One line tells all that another one tells. -/
def Rl : List Int → List Int → Prop
  | [], [] => True
  | a :: s, b :: t => (a = -1 ∨ a = b) ∧ Rl s t
  | _, _ => False

theorem Rl.len : ∀ {s t : List Int}, Rl s t → s.length = t.length
  | [], [], _ => rfl
  | [], _ :: _, h => h.elim
  | _ :: _, [], h => h.elim
  | _ :: _, _ :: _, h => by simp [Rl.len h.2]
theorem Rl.get : ∀ {s t : List Int}, Rl s t → ∀ {i : Nat} {a : Int}, s[i]? = some a → a = -1 ∨ t[i]? = some a
  | [], [], _, i, a, h => by simp at h
  | [], _ :: _, h, _, _, _ => h.elim
  | _ :: _, [], h, _, _, _ => h.elim
  | _ :: _, _ :: _, h, 0, a, e => by
    simp only [List.getElem?_cons_zero, Option.some.injEq] at e ⊢
    subst e
    rcases h.1 with h | h
    · exact .inl h
    · exact .inr h.symm
  | _ :: _, _ :: _, h, i + 1, a, e => by
    simp only [List.getElem?_cons_succ] at e ⊢
    exact h.2.get e
theorem Rl.of : ∀ {s t : List Int}, s.length = t.length → (∀ (i : Nat) (a : Int), s[i]? = some a → a = -1 ∨ t[i]? = some a) → Rl s t
  | [], [], _, _ => trivial
  | [], _ :: _, h, _ => by simp at h
  | _ :: _, [], h, _ => by simp at h
  | a :: s, b :: t, h, k => ⟨by
      rcases k 0 a rfl with h | h
      · exact .inl h
      · exact .inr (by simpa using h.symm), Rl.of (by simpa using h) fun i a e => by simpa using k (i + 1) a (by simpa using e)⟩
theorem Rl.drop : ∀ {s t : List Int} (n : Nat), Rl s t → Rl (s.drop n) (t.drop n)
  | s, t, 0, h => by simpa using h
  | [], [], _ + 1, _ => trivial
  | [], _ :: _, _, h => h.elim
  | _ :: _, [], _, h => h.elim
  | _ :: _, _ :: _, n + 1, h => by simpa using h.2.drop n
theorem Rl.refl : ∀ s : List Int, Rl s s
  | [] => trivial
  | _ :: s => ⟨.inr rfl, Rl.refl s⟩
theorem Rl.set {s t : List Int} (h : Rl s t) {i : Nat} {v : Int} : Rl (s.set i v) (t.set i v) :=
  Rl.of (by simp [h.len]) fun j a e => by
    rw [List.getElem?_set] at e ⊢
    have hl := h.len
    by_cases q : i = j
    · subst q
      simp only [if_true] at e ⊢
      split at e
      · rename_i hi
        rw [if_pos (by omega)]; exact .inr e
      · cases e
    · rw [if_neg q] at e ⊢
      exact h.get e
theorem Rl.setl {s t : List Int} (h : Rl s t) {i : Nat} {v : Int} (hv : t[i]? = some v) : Rl (s.set i v) t :=
  Rl.of (by simp [h.len]) fun j a e => by
    rw [List.getElem?_set] at e
    by_cases q : i = j
    · subst q
      simp only [if_true] at e
      split at e
      · injection e with e
        subst e
        exact .inr hv
      · cases e
    · rw [if_neg q] at e
      exact h.get e

theorem fitL_mono {L : Nat} {s t : List Int} (h : Rl s t) (hf : fitL L t = true) : fitL L s = true := by
  unfold fitL at hf ⊢
  simp only [Bool.and_eq_true, decide_eq_true_eq, List.all_eq_true, bne_iff_ne, ne_eq] at hf ⊢
  obtain ⟨⟨h1, h2⟩, h3⟩ := hf
  refine ⟨⟨by rw [h.len]; exact h1, fun x hx => ?_⟩, fun e => ?_⟩
  · obtain ⟨j, hj⟩ := List.mem_iff_getElem?.1 hx
    rw [List.getElem?_take] at hj
    split at hj
    · rename_i hjL
      rcases h.get hj with e | e
      · rw [e]; decide
      · exact h2 x (List.mem_iff_getElem?.2 ⟨j, by rw [List.getElem?_take, if_pos hjL, e]⟩)
    · cases hj
  · rcases h.get e with q | q
    · cases q
    · exact h3 q

theorem Wc_mono {L : Nat} {g : List Int → Nat} (hg : ∀ s t, Rl s t → g t ≤ g s) : ∀ {s t : List Int}, Rl s t → Wc L g t ≤ Wc L g s
  | [], [], _ => Nat.le_refl _
  | [], _ :: _, h => h.elim
  | _ :: _, [], h => h.elim
  | a :: s, b :: t, h => by
    have ih := Wc_mono (L := L) hg h.2
    unfold Wc
    refine Nat.add_le_add ?_ ?_
    · by_cases e : a = 1
      · have : b = 1 := by
          rcases h.1 with q | q
          · omega
          · omega
        rw [if_pos e, if_pos this]
        exact Nat.le_refl _
      · rw [if_neg e]
        split
        · exact Nat.zero_le _
        · exact ih
    · by_cases hf : fitL L (b :: t) = true
      · rw [if_pos hf, if_pos (fitL_mono h hf)]
        exact hg _ _ (h.2.drop L)
      · rw [if_neg hf]
        exact Nat.zero_le _
theorem Zw_mono : ∀ {s t : List Int}, Rl s t → Zw t ≤ Zw s
  | [], [], _ => Nat.le_refl _
  | [], _ :: _, h => h.elim
  | _ :: _, [], h => h.elim
  | a :: s, b :: t, h => by
    have ih := Zw_mono h.2
    unfold Zw
    by_cases e : b = 1
    · rw [if_pos e]; exact Nat.zero_le _
    · rw [if_neg e, if_neg (fun q => by rcases h.1 with z | z <;> omega)]
      exact ih
/-- Where more is known there are no more ways. -/
theorem Ww_mono : ∀ (cl : List Int) {s t : List Int}, Rl s t → Ww cl t ≤ Ww cl s
  | [], _, _, h => Zw_mono h
  | _ :: cl, _, _, h => Wc_mono (fun _ _ k => Ww_mono cl k) h

/-! ### full lines -/
def cfa : Nat → List Int → List Int
  | n, [] => if 0 < n then [(n : Int)] else []
  | n, c :: r => if c = 1 then cfa (n + 1) r else if 0 < n then (n : Int) :: cfa 0 r else cfa 0 r
def fullL (s : List Int) : Prop := ∀ x ∈ s, x = 0 ∨ x = 1

theorem cfa_head : ∀ (r : List Int) (n : Nat), 0 < n → ∃ (k : Nat) (l : List Int), cfa n r = (k : Int) :: l ∧ n ≤ k
  | [], n, h => ⟨n, [], by simp [cfa, h], Nat.le_refl _⟩
  | c :: r, n, h => by
    unfold cfa
    by_cases e : c = 1
    · rw [if_pos e]
      obtain ⟨k, l, h1, h2⟩ := cfa_head r (n + 1) (by omega)
      exact ⟨k, l, h1, by omega⟩
    · rw [if_neg e, if_pos h]
      exact ⟨n, _, rfl, Nat.le_refl _⟩

theorem fitL_one {m : Nat} {r : List Int} : fitL (m + 1) (1 :: r) = fitL m r := by
  unfold fitL
  simp

theorem Ww_nil (cl : List Int) : Ww cl [] = if cl = [] then 1 else 0 := by
  cases cl with
  | nil => rfl
  | cons _ _ => rfl

theorem Ww_full_aux : ∀ (N : Nat), (∀ (f : List Int), f.length < N → fullL f → ∀ cl, okC cl → Ww cl f = if cfa 0 f = cl then 1 else 0) ∧
    (∀ (r : List Int), r.length < N → fullL r → ∀ (n m : Nat) (cl : List Int), okC cl → 0 < n → (if fitL m r = true then Ww cl (r.drop (m + 1)) else 0) = if cfa n r = ((n + m : Nat) : Int) :: cl then 1 else 0)
  | 0 => ⟨fun _ h => by omega, fun _ h => by omega⟩
  | N + 1 => by
    have ih := Ww_full_aux N
    have second : ∀ (r : List Int), r.length < N + 1 → fullL r → ∀ (n m : Nat) (cl : List Int), okC cl → 0 < n → (if fitL m r = true then Ww cl (r.drop (m + 1)) else 0) = if cfa n r = ((n + m : Nat) : Int) :: cl then 1 else 0 := by
      intro r hr hf n m cl hc hn
      cases r with
      | nil =>
        have e1 : fitL m [] = decide (m = 0) := by unfold fitL; simp
        rw [e1, show cfa n [] = [(n : Int)] by simp [cfa, hn]]
        by_cases e : m = 0
        · subst e
          simp only [decide_true, if_true, List.drop_nil, Ww_nil]
          by_cases e2 : cl = []
          · subst e2; simp
          · rw [if_neg e2, if_neg]
            intro q
            injection q with _ q
            exact e2 q.symm
        · rw [decide_eq_false e, if_neg (by simp), if_neg]
          intro q
          injection q with q _
          omega
      | cons c r =>
        have hr' : r.length < N := by simpa using hr
        have hf' : fullL r := fun x hx => hf x (by simp [hx])
        rcases hf c (by simp) with rfl | rfl
        · -- a place that is empty
          have e1 : fitL m (0 :: r) = decide (m = 0) := by
            cases m with
            | zero => unfold fitL; simp
            | succ m => rw [fitL_zero (i := 0) rfl (by omega)]; simp
          have e2 : cfa n (0 :: r) = (n : Int) :: cfa 0 r := by simp [cfa, hn]
          rw [e1, e2]
          by_cases e : m = 0
          · subst e
            simp only [decide_true, if_true, Nat.zero_add, List.drop_succ_cons, List.drop_zero]
            rw [ih.1 r hr' hf' cl hc]
            by_cases e3 : cfa 0 r = cl
            · rw [if_pos e3, if_pos (by rw [e3]; simp)]
            · rw [if_neg e3, if_neg (fun q => e3 (by injection q))]
          · rw [decide_eq_false e, if_neg (by simp), if_neg]
            intro q
            injection q with q _
            omega
        · have e2 : cfa n (1 :: r) = cfa (n + 1) r := by simp [cfa]
          rw [e2]
          cases m with
          | zero =>
            have e1 : fitL 0 (1 :: r) = false := by unfold fitL; simp
            rw [e1, if_neg (by simp), if_neg]
            obtain ⟨k, l, h1, h2⟩ := cfa_head r (n + 1) (by omega)
            rw [h1]
            intro q
            injection q with q _
            omega
          | succ m =>
            rw [fitL_one, List.drop_succ_cons, ih.2 r hr' hf' (n + 1) m cl hc (by omega), show n + 1 + m = n + (m + 1) by omega]
    refine ⟨?_, second⟩
    intro f hlen hf cl hc
    cases f with
    | nil => rw [Ww_nil]; simp [cfa, eq_comm]
    | cons c r =>
      have hr' : r.length < N := by simpa using hlen
      have hf' : fullL r := fun x hx => hf x (by simp [hx])
      rcases hf c (by simp) with rfl | rfl
      · have e2 : cfa 0 (0 :: r) = cfa 0 r := by simp [cfa]
        rw [e2, ← ih.1 r hr' hf' cl hc]
        cases cl with
        | nil => simp [Ww, Zw]
        | cons L cl =>
          have hL := hc L (by simp)
          show Wc L.toNat (Ww cl) (0 :: r) = Wc L.toNat (Ww cl) r
          have hz := fitL_zero (L := L.toNat) (s := 0 :: r) (i := 0) rfl (by omega)
          unfold Wc
          rw [hz]
          simp
          cases r <;> rfl
      · have e2 : cfa 0 (1 :: r) = cfa 1 r := by simp [cfa]
        rw [e2]
        cases cl with
        | nil =>
          obtain ⟨k, l, h1, h2⟩ := cfa_head r 1 (by omega)
          rw [h1, if_neg (by simp)]
          simp [Ww, Zw]
        | cons L cl =>
          have hL := hc L (by simp)
          obtain ⟨M, hM⟩ : ∃ M : Nat, L.toNat = M + 1 := ⟨L.toNat - 1, by omega⟩
          have hLM : L = ((1 + M : Nat) : Int) := by omega
          show Wc L.toNat (Ww cl) (1 :: r) = _
          unfold Wc
          rw [if_pos rfl, Nat.zero_add, hM, fitL_one, ih.2 r hr' hf' 1 M cl (fun x hx => hc x (by simp [hx])) (by omega), hLM]

theorem Ww_full {f cl : List Int} (hf : fullL f) (hc : okC cl) : Ww cl f = if cfa 0 f = cl then 1 else 0 := (Ww_full_aux (f.length + 1)).1 f (by omega) hf cl hc

theorem rs_cfa (line : List Int) : ∀ i : Nat, i ≤ line.length → (rs line i).1 ++ cfa (rs line i).2 (line.drop i) = cfa 0 line
  | 0, _ => by simp [rs]
  | i + 1, h => by
    have ih := rs_cfa line i (by omega)
    have hd : line.drop i = geti line (i : Int) :: line.drop (i + 1) := by
      rw [List.drop_eq_getElem_cons (by omega)]
      congr 1
      have := get_geti (l := line) (i := i) (by omega)
      rw [List.getElem?_eq_getElem (by omega)] at this
      exact Option.some.inj this
    rw [← ih, hd]
    have hrs : rs line (i + 1) = if geti line (i : Int) = 1 then ((rs line i).1, (rs line i).2 + 1) else if 0 < (rs line i).2 then ((rs line i).1 ++ [((rs line i).2 : Int)], 0) else ((rs line i).1, 0) := rfl
    have hcf : cfa (rs line i).2 (geti line (i : Int) :: line.drop (i + 1)) = if geti line (i : Int) = 1 then cfa ((rs line i).2 + 1) (line.drop (i + 1)) else if 0 < (rs line i).2 then ((rs line i).2 : Int) :: cfa 0 (line.drop (i + 1)) else cfa 0 (line.drop (i + 1)) := rfl
    rw [hrs, hcf]
    by_cases e : geti line (i : Int) = 1
    · rw [if_pos e, if_pos e]
    · rw [if_neg e, if_neg e]
      split <;> simp
theorem rsAll_cfa (line : List Int) : rsAll (rs line line.length) = cfa 0 line := by
  rw [← rs_cfa line line.length (Nat.le_refl _), List.drop_length]
  unfold rsAll cfa
  split <;> simp

/-! ### what is sure -/
def okL (s : List Int) : Prop := ∀ x ∈ s, x = -1 ∨ x = 0 ∨ x = 1
theorem sureX_zero {s cl : List Int} (hc : okC cl) (hp : 0 < Ww cl s) {i : Nat} (h : s[i]? = some 0) : sureX s cl i = 0 := by
  unfold sureX
  rw [Fw_none cl hc s i h, if_neg (by omega), if_pos rfl]
theorem sureX_one {s cl : List Int} (hc : okC cl) {i : Nat} (h : s[i]? = some 1) : sureX s cl i = 1 := by
  have hlt := (List.getElem?_eq_some_iff.1 h).1
  have e : s.set i 1 = s := by
    apply List.ext_getElem?
    intro j
    rw [List.getElem?_set]
    split
    · rename_i q; subst q; rw [h]
    · rfl
  unfold sureX
  rw [Fw_set cl hc s i hlt (by rw [h]; decide), e, if_pos rfl]
theorem sureX_open {s cl : List Int} (hc : okC cl) (_hp : 0 < Ww cl s) {i : Nat} (h : s[i]? = some (-1)) :
    sureX s cl i = if Ww cl (s.set i 0) = 0 then 1 else if Ww cl (s.set i 1) = 0 then 0 else -1 := by
  have hlt := (List.getElem?_eq_some_iff.1 h).1
  have h2 := Ww_split cl hc s i h
  have hg : geti s (i : Int) = -1 := by
    have := get_geti hlt
    rw [h] at this
    exact (Option.some.inj this).symm
  unfold sureX
  rw [Fw_set cl hc s i hlt (by rw [h]; decide), hg]
  by_cases e : Ww cl (s.set i 0) = 0
  · rw [if_pos e, if_pos (by omega)]
  · rw [if_neg e, if_neg (by omega)]
theorem sureX_val {s cl : List Int} (hc : okC cl) (hp : 0 < Ww cl s) (hs : okL s) {i : Nat} (hi : i < s.length) : sureX s cl i = -1 ∨ sureX s cl i = 0 ∨ sureX s cl i = 1 := by
  have hm := List.getElem?_eq_getElem hi
  rcases hs _ (List.mem_of_getElem? hm) with e | e | e <;> rw [e] at hm
  · rw [sureX_open hc hp hm]
    split
    · exact .inr (.inr rfl)
    · split
      · exact .inr (.inl rfl)
      · exact .inl rfl
  · exact .inr (.inl (sureX_zero hc hp hm))
  · exact .inr (.inr (sureX_one hc hm))
/-- What is known stays. -/
theorem sureX_keep {s cl : List Int} (hc : okC cl) (hp : 0 < Ww cl s) (hs : okL s) {i : Nat} {a : Int} (h : s[i]? = some a) : a = -1 ∨ sureX s cl i = a := by
  rcases hs a (List.mem_of_getElem? h) with e | e | e <;> subst e
  · exact .inl rfl
  · exact .inr (sureX_zero hc hp h)
  · exact .inr (sureX_one hc h)
/-- What is sure is sure where more is known. -/
theorem sureX_mono {s t cl : List Int} (hc : okC cl) (h : Rl s t) (hs : okL s) (ht : okL t) (hp : 0 < Ww cl t) {i : Nat} (hi : i < s.length) : sureX s cl i = -1 ∨ sureX s cl i = sureX t cl i := by
  have hps : 0 < Ww cl s := Nat.lt_of_lt_of_le hp (Ww_mono cl h)
  have hm := List.getElem?_eq_getElem hi
  have hi' : i < t.length := by rw [← h.len]; exact hi
  have hm' := List.getElem?_eq_getElem hi'
  rcases hs _ (List.mem_of_getElem? hm) with e | e | e <;> rw [e] at hm
  · rw [sureX_open hc hps hm]
    by_cases c0 : Ww cl (s.set i 0) = 0
    · rw [if_pos c0]
      right
      rcases ht _ (List.mem_of_getElem? hm') with e' | e' | e' <;> rw [e'] at hm'
      · rw [sureX_open hc hp hm', if_pos]
        have := Ww_mono cl (h.set (i := i) (v := 0))
        omega
      · have := Ww_mono cl (h.setl hm')
        omega
      · exact (sureX_one hc hm').symm
    · rw [if_neg c0]
      by_cases c1 : Ww cl (s.set i 1) = 0
      · rw [if_pos c1]
        right
        rcases ht _ (List.mem_of_getElem? hm') with e' | e' | e' <;> rw [e'] at hm'
        · have h1 := Ww_mono cl (h.set (i := i) (v := 1))
          have h2 := Ww_split cl hc t i hm'
          rw [sureX_open hc hp hm', if_neg (by omega), if_pos (by omega)]
        · exact (sureX_zero hc hp hm').symm
        · have := Ww_mono cl (h.setl hm')
          omega
      · rw [if_neg c1]; exact .inl rfl
  · right
    rcases h.get hm with q | q
    · cases q
    · rw [sureX_zero hc hps hm, sureX_zero hc hp q]
  · right
    rcases h.get hm with q | q
    · cases q
    · rw [sureX_one hc hm, sureX_one hc q]
end Go.Proofs.Ytdjjomghggplpaa
