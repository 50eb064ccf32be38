/-
  PokerValues: what cards may be.
-/
import Derived.Test.YtoickcchcjehdaaNPV
import Derived.Test.YtoickcchcjehdaaLibX
import Derived.Test.YtoickcchcjehdaaLibY
import Derived.Test.YtoickcchcjehdaaLibM
import Derived.Test.YtoickcchcjehdaaLibE
namespace Go.Proofs.Ytoickcchcjehdaa
open Go Go.GL

def strB (x : Int) : Bool := decide (x < 0) || decide ((52 : Int) ≤ x)

open Classical in
/-- What is wrong with cards. -/
noncomputable def wrong (l : List Int) : Int := if l.any strB = true then 3 else if l.Nodup then 0 else 6

theorem at_r {l : List Int} (n : Int) (hl : l.length ≤ 17592186044416) : ∃ v, gameroomref_at_m l n = some v ∧ (0 ≤ v ↔ n ∈ l) := by
  refine ⟨fidx (fun x => x == n) l, ?_, ?_⟩
  · unfold gameroomref_at_m
    rw [search_loop (l := l) (fun x => x == n) (fun i => Fl.ret (i : Int)) (Fl.go ()) ?_ ?_ ?_]
    · unfold fidx
      cases l.findIdx? (fun x => x == n) <;> rfl
    · intro i x hx hp
      have hb := idx_bd hx
      simp only [gameroomref_at_L1, gameroomref_at_J2]
      rw [if_pos (by simpa using hb.2), asrt_pos hb, geti_some hx]
      exact if_pos hp
    · intro i x hx hp
      have hb := idx_bd hx
      simp only [gameroomref_at_L1, gameroomref_at_J2]
      rw [if_pos (by simpa using hb.2), asrt_pos hb, geti_some hx, if_neg (by simpa using hp)]
      simp only [gameroomref_at_J3]
      rw [w64_succ (by omega)]
    · simp only [gameroomref_at_L1]
      rw [if_neg (by simp)]
  · rw [fidx_neg, List.any_eq_true]
    constructor
    · rintro ⟨x, hx, h⟩
      rw [beq_iff_eq] at h
      rw [← h]; exact hx
    · intro h
      exact ⟨n, h, by simp⟩

theorem strB_in (x : Int) : strB x = !(decide (0 ≤ x) && decide (x ≤ 51)) := by
  unfold strB
  rw [Bool.eq_iff_iff]
  simp only [Bool.or_eq_true, decide_eq_true_eq, Bool.not_eq_true', Bool.and_eq_false_iff, decide_eq_false_iff_not]
  omega

theorem cards_r {l : List Int} (hl : l.length ≤ 17592186043904) : gameroomref_CardsMay_m l = some (wrong l) := by
  classical
  unfold gameroomref_CardsMay_m wrong
  rw [search_loop (l := l) strB (fun _ => Fl.ret 3) (Fl.go ()) ?_ ?_ ?_]
  · have hn := fidx_neg strB l
    unfold fidx at hn
    cases hf : l.findIdx? strB with
    | some i =>
      rw [hf] at hn
      rw [if_pos (hn.1 (by simp))]; rfl
    | none =>
      rw [hf] at hn
      rw [if_neg (fun h => by have := hn.2 h; simp at this), Option.bind_some]
      simp only [gameroomref_CardsMay_K1]
      unfold gameroomref_CardsMay_J1
      have key := count_loop (step := gameroomref_CardsMay_L2 l) (fun (_ : Unit) (i : Nat) => (i : Int)) (fun n _ => (l.take n).Nodup) (fun r => r = if l.Nodup then .go () else .ret 6) l.length () (by simp) (by
        rintro i - hi hI
        have hg := get_geti hi
        have e1 : gameroomref_CardsMay_L2 l (i : Int) = gameroomref_CardsMay_J5 l i := if_pos (decide_eq_true (by omega))
        have ec : cut l (0 : Int) (i : Int) = l.take i := by simp [cut]
        obtain ⟨v, hv, hvi⟩ := at_r (l := l.take i) (geti l i) (by rw [List.length_take]; omega)
        rw [e1]
        unfold gameroomref_CardsMay_J5 gameroomref_CardsMay_J6
        rw [asrt_pos (by omega), asrt_pos (by omega), ec, hv, Option.bind_some, w64_of (by omega)]
        by_cases h : geti l i ∈ l.take i
        · right
          refine ⟨.ret 6, by rw [if_pos (decide_eq_true (hvi.2 h))], ?_⟩
          rw [if_neg]
          intro hn
          have h2 : (l.take (i + 1)).Nodup := hn.sublist (List.take_sublist _ _)
          rw [List.take_add_one, hg, List.nodup_append] at h2
          exact h2.2.2 _ h _ (by simp) rfl
        · left
          refine ⟨(), by rw [if_neg (by rw [decide_eq_true_eq]; exact fun q => h (hvi.1 q))]; rfl, ?_⟩
          rw [List.take_add_one, hg, List.nodup_append]
          refine ⟨hI, by simp, fun x hx y hy e => ?_⟩
          simp at hy
          rw [e, hy] at hx
          exact h hx) (by
        rintro - hI
        rw [List.take_length] at hI
        exact ⟨.go (), by simp only [gameroomref_CardsMay_L2]; rw [if_neg (by simp)], by rw [if_pos hI]⟩)
      obtain ⟨r, hr, rfl⟩ := key
      have hr' : loop (gameroomref_CardsMay_L2 l) 0 = _ := hr
      rw [hr', Option.bind_some]
      by_cases h : l.Nodup
      · rw [if_pos h, if_pos h]; rfl
      · rw [if_neg h, if_neg h]; rfl
  · intro i x hx hp
    have hb := idx_bd hx
    simp only [gameroomref_CardsMay_L1, gameroomref_CardsMay_J2]
    rw [if_pos (by simpa using hb.2), asrt_pos hb, geti_some hx]
    simp only [gameroomref_within_m, Option.bind_some]
    rw [if_pos (by rw [← strB_in]; exact hp)]
  · intro i x hx hp
    have hb := idx_bd hx
    simp only [gameroomref_CardsMay_L1, gameroomref_CardsMay_J2]
    rw [if_pos (by simpa using hb.2), asrt_pos hb, geti_some hx]
    simp only [gameroomref_within_m, Option.bind_some]
    rw [if_neg (by rw [← strB_in, hp]; simp)]
    simp only [gameroomref_CardsMay_J3]
    rw [w64_succ (by omega)]
  · simp only [gameroomref_CardsMay_L1]
    rw [if_neg (by simp)]

theorem wrong_0 {l : List Int} (h : wrong l = 0) : (∀ x ∈ l, 0 ≤ x ∧ x ≤ 51) ∧ l.Nodup := by
  classical
  unfold wrong at h
  by_cases h1 : l.any strB = true
  · rw [if_pos h1] at h; omega
  · rw [if_neg h1] at h
    by_cases h2 : l.Nodup
    · refine ⟨fun x hx => ?_, h2⟩
      have : ¬ strB x = true := fun q => h1 (List.any_eq_true.2 ⟨_, hx, q⟩)
      unfold strB at this
      simp only [Bool.or_eq_true, decide_eq_true_eq] at this
      omega
    · rw [if_neg h2] at h; omega

theorem check_p {l : List Int} (hl : l.length ≤ 17592186043904) : poker_check_m l = some (wrong l) := by
  classical
  unfold poker_check_m wrong
  rw [search_loop (l := l) strB (fun _ => Fl.ret 3) (Fl.go ()) ?_ ?_ ?_]
  · have hn := fidx_neg strB l
    unfold fidx at hn
    cases hf : l.findIdx? strB with
    | some i =>
      rw [hf] at hn
      rw [if_pos (hn.1 (by simp))]; rfl
    | none =>
      rw [hf] at hn
      have hno : ¬ l.any strB = true := fun h => by have := hn.2 h; simp at this
      rw [if_neg hno, Option.bind_some]
      simp only [poker_check_K1]
      unfold poker_check_J1
      have key := count_loop (step := poker_check_L2 l) (fun (s : List Bool) (i : Nat) => (s, (i : Int))) (fun n s => s.length = 52 ∧ (∀ x : Int, 0 ≤ x → x < 52 → (getb s x = true ↔ x ∈ l.take n)) ∧ (l.take n).Nodup) (fun r => r = if l.Nodup then .go () else .ret 6) l.length (List.replicate 52 false) ?_ ?_ ?_
      · obtain ⟨r, hr, rfl⟩ := key
        have hr' : loop (poker_check_L2 l) (List.replicate 52 false, 0) = _ := hr
        rw [hr', Option.bind_some]
        by_cases h : l.Nodup
        · rw [if_pos h, if_pos h]; rfl
        · rw [if_neg h, if_neg h]; rfl
      · refine ⟨by simp, fun x h0 h1 => ?_, by simp⟩
        simp only [List.take_zero, List.not_mem_nil, iff_false]
        unfold getb
        rw [List.getD_eq_getElem?_getD, List.getElem?_replicate]
        split <;> simp
      · rintro i s hi ⟨hs, hm, hn2⟩
        have hg := get_geti hi
        have hst : strB (geti l i) = false := by
          rw [Bool.eq_false_iff]
          intro h
          exact hno (List.any_eq_true.2 ⟨_, List.mem_of_getElem? hg, h⟩)
        have hb : 0 ≤ geti l i ∧ geti l i < 52 := by
          unfold strB at hst
          simp only [Bool.or_eq_false_iff, decide_eq_false_iff_not] at hst
          omega
        have e1 : poker_check_L2 l (s, (i : Int)) = poker_check_J5 l s i := if_pos (decide_eq_true (by omega))
        rw [e1]
        unfold poker_check_J5 poker_check_J7 poker_check_J6
        rw [asrt_pos (by omega), asrt_pos hb]
        by_cases h : geti l i ∈ l.take i
        · right
          refine ⟨.ret 6, by rw [if_pos ((hm _ hb.1 hb.2).2 h)], ?_⟩
          rw [if_neg]
          intro hn
          have h2 : (l.take (i + 1)).Nodup := hn.sublist (List.take_sublist _ _)
          rw [List.take_add_one, hg, List.nodup_append] at h2
          exact h2.2.2 _ h _ (by simp) rfl
        · left
          refine ⟨s.set (geti l i).toNat true, by rw [if_neg (fun q => h ((hm _ hb.1 hb.2).1 q)), asrt_pos hb, asrt_pos (by omega), w64_of (by omega)]; rfl, by rw [List.length_set]; exact hs, fun x h0 h1 => ?_, ?_⟩
          · rw [List.take_add_one, hg]
            simp only [Option.toList_some, List.mem_append, List.mem_singleton]
            unfold getb
            rw [List.getD_eq_getElem?_getD, List.getElem?_set]
            by_cases e : (geti l i).toNat = x.toNat
            · rw [if_pos e, if_pos (by omega)]
              simp; right; omega
            · rw [if_neg e, ← List.getD_eq_getElem?_getD]
              have := hm x h0 h1
              unfold getb at this
              rw [this]
              constructor
              · exact fun h => .inl h
              · rintro (h | h)
                · exact h
                · subst h; exact absurd rfl e
          · rw [List.take_add_one, hg, List.nodup_append]
            refine ⟨hn2, by simp, fun x hx y hy e => ?_⟩
            simp at hy
            rw [e, hy] at hx
            exact h hx
      · rintro s ⟨hs, hm, hn2⟩
        rw [List.take_length] at hn2
        exact ⟨.go (), by simp only [poker_check_L2]; rw [if_neg (by simp)], by rw [if_pos hn2]⟩
  · intro i x hx hp
    have hb := idx_bd hx
    simp only [poker_check_L1, poker_check_J2]
    rw [if_pos (by simpa using hb.2), asrt_pos hb, geti_some hx]
    exact if_pos hp
  · intro i x hx hp
    have hb := idx_bd hx
    simp only [poker_check_L1, poker_check_J2]
    rw [if_pos (by simpa using hb.2), asrt_pos hb, geti_some hx]
    rw [if_neg (by unfold strB at hp; rw [hp]; simp)]
    simp only [poker_check_J3]
    rw [w64_succ (by omega)]
  · simp only [poker_check_L1]
    rw [if_neg (by simp)]

end Go.Proofs.Ytoickcchcjehdaa
