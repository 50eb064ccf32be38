/-
  BridgeBests: what may be asked, who wins.
-/
import Derived.Test.YtlpaklmfgldkoaaNBB
import Derived.Test.YtlpaklmfgldkoaaLibX
import Derived.Test.YtlpaklmfgldkoaaLibY
import Derived.Test.YtlpaklmfgldkoaaLibT
import Derived.Test.YtlpaklmfgldkoaaLibE
namespace Go.Proofs.Ytlpaklmfgldkoaa
open Go Go.GL

theorem comp_full {s : List Int} (h : (compI s).length = s.length) : compI s = s := by
  unfold compI Lib.compact Lib.compactUpTo at h ⊢
  rw [List.length_map] at h
  have h2 : ((List.range s.length).filter (Lib.keeps s.toArray)).length = (List.range s.length).length := by rw [h, List.length_range]
  have h3 := List.filter_eq_self.2 (List.length_filter_eq_length_iff.1 h2)
  rw [h3]
  apply List.ext_getElem
  · simp
  · intro i h4 h5
    simp [h5]

theorem dup_iff (l : List Int) : (compI (sortI l)).length < l.length ↔ ¬ l.Nodup := by
  have hp : (sortI l).Nodup ↔ l.Nodup := (List.mergeSort_perm l _).nodup_iff
  have sl := sortI_length l
  have cl := compI_length (sortI l)
  constructor
  · intro h hn
    have e : compI (sortI l) = sortI l := strict_ext (compI_lt (sortI_le l)) (sortI_lt hn) (fun x => compI_mem)
    rw [e, sl] at h
    omega
  · intro hn
    rcases Nat.lt_or_ge (compI (sortI l)).length l.length with h | h
    · exact h
    · exfalso
      have e := comp_full (s := sortI l) (by omega)
      have hs := compI_lt (sortI_le l)
      rw [e] at hs
      exact hn (hp.1 (hs.imp (fun h => by omega)))

def strB (x : Int) : Bool := decide (x < 0) || decide ((52 : Int) ≤ x)

theorem containsF_p {l : List Int} (hs : l.length ≤ 17592186044416) : slices_ContainsFunc_m l = some (l.any strB) := by
  unfold slices_ContainsFunc_m slices_IndexFunc_m
  rw [search_loop (l := l) strB (fun i => Fl.ret (i : Int)) (Fl.go ()) ?_ ?_ ?_]
  · have hn := fidx_neg strB l
    unfold fidx at hn
    cases hf : l.findIdx? strB with
    | none =>
      rw [hf] at hn
      have : l.any strB = false := by
        rw [Bool.eq_false_iff]
        intro h; have := hn.2 h; simp at this
      rw [this]; rfl
    | some i =>
      rw [hf] at hn
      have : l.any strB = true := hn.1 (by simp)
      rw [this]
      simp [slices_IndexFunc_K1]
  · intro i x hx hp
    have hb := idx_bd hx
    simp only [slices_IndexFunc_L1, slices_IndexFunc_J2]
    rw [if_pos (by simpa using hb.2), asrt_pos hb, geti_some hx]
    simp only [bridge_strange_m, Option.bind_some]
    exact if_pos hp
  · intro i x hx hp
    have hb := idx_bd hx
    simp only [slices_IndexFunc_L1, slices_IndexFunc_J2]
    rw [if_pos (by simpa using hb.2), asrt_pos hb, geti_some hx]
    simp only [bridge_strange_m, Option.bind_some]
    rw [if_neg (by unfold strB at hp; rw [hp]; simp)]
    simp only [slices_IndexFunc_J3]
    rw [w64_succ (by omega)]
  · simp only [slices_IndexFunc_L1]
    rw [if_neg (by simp)]

open Classical in
/-- What is wrong with cards. -/
noncomputable def wrong (l : List Int) : Int := if l.any strB = true then 3 else if l.Nodup then 0 else 6

theorem check_p {l : List Int} (hl : l.length ≤ 17592186043904) : bridge_check_m l = some (wrong l) := by
  classical
  unfold bridge_check_m wrong
  rw [containsF_p (by omega), Option.bind_some]
  by_cases h : l.any strB = true
  · rw [if_pos h, if_pos h]
  · rw [if_neg h, if_neg h]
    unfold bridge_check_J1 slices_Values_m slices_Sorted_m slices_Compact_2_m bridge_check_J2
    rw [Option.bind_some, asrt_pos (by unfold bigN; omega), Option.bind_some, asrt_pos (by have := sortI_length l; unfold bigN; omega), Option.bind_some]
    have hd := dup_iff l
    by_cases hn : l.Nodup
    · rw [if_pos hn, if_neg (by rw [decide_eq_true_eq]; intro q; exact (hd.1 (by omega)) hn)]
    · rw [if_neg hn, if_pos (decide_eq_true (by have := hd.2 hn; omega))]

theorem at_r {l : List Int} (n : Int) (hl : l.length ≤ 17592186044416) : ∃ v, gameroomref_at_m l n = some v ∧ (0 ≤ v ↔ n ∈ l) := by
  refine ⟨fidx (fun x => x == n) l, ?_, ?_⟩
  · unfold gameroomref_at_m
    rw [search_loop (l := l) (fun x => x == n) (fun i => Fl.ret (i : Int)) (Fl.go ()) ?_ ?_ ?_]
    · unfold fidx
      cases l.findIdx? (fun x => x == n) <;> rfl
    · intro i x hx hp
      have hb := idx_bd hx
      simp only [gameroomref_at_L1, gameroomref_at_J2]
      rw [if_pos (by simpa using hb.2), asrt_pos hb, geti_some hx]
      exact if_pos hp
    · intro i x hx hp
      have hb := idx_bd hx
      simp only [gameroomref_at_L1, gameroomref_at_J2]
      rw [if_pos (by simpa using hb.2), asrt_pos hb, geti_some hx, if_neg (by simpa using hp)]
      simp only [gameroomref_at_J3]
      rw [w64_succ (by omega)]
    · simp only [gameroomref_at_L1]
      rw [if_neg (by simp)]
  · rw [fidx_neg, List.any_eq_true]
    constructor
    · rintro ⟨x, hx, h⟩
      rw [beq_iff_eq] at h
      rw [← h]; exact hx
    · intro h
      exact ⟨n, h, by simp⟩

theorem strB_in (x : Int) : strB x = !(decide (0 ≤ x) && decide (x ≤ 51)) := by
  unfold strB
  rw [Bool.eq_iff_iff]
  simp only [Bool.or_eq_true, decide_eq_true_eq, Bool.not_eq_true', Bool.and_eq_false_iff, decide_eq_false_iff_not]
  omega

theorem cards_r {l : List Int} (hl : l.length ≤ 17592186043904) : gameroomref_CardsMay_m l = some (wrong l) := by
  classical
  unfold gameroomref_CardsMay_m wrong
  rw [search_loop (l := l) strB (fun _ => Fl.ret 3) (Fl.go ()) ?_ ?_ ?_]
  · have hn := fidx_neg strB l
    unfold fidx at hn
    cases hf : l.findIdx? strB with
    | some i =>
      rw [hf] at hn
      rw [if_pos (hn.1 (by simp))]; rfl
    | none =>
      rw [hf] at hn
      rw [if_neg (fun h => by have := hn.2 h; simp at this), Option.bind_some]
      simp only [gameroomref_CardsMay_K1]
      unfold gameroomref_CardsMay_J1
      have key := count_loop (step := gameroomref_CardsMay_L2 l) (fun (_ : Unit) (i : Nat) => (i : Int)) (fun n _ => (l.take n).Nodup) (fun r => r = if l.Nodup then .go () else .ret 6) l.length () (by simp) (by
        rintro i - hi hI
        have hg := get_geti hi
        have e1 : gameroomref_CardsMay_L2 l (i : Int) = gameroomref_CardsMay_J5 l i := if_pos (decide_eq_true (by omega))
        have ec : cut l (0 : Int) (i : Int) = l.take i := by simp [cut]
        obtain ⟨v, hv, hvi⟩ := at_r (l := l.take i) (geti l i) (by rw [List.length_take]; omega)
        rw [e1]
        unfold gameroomref_CardsMay_J5 gameroomref_CardsMay_J6
        rw [asrt_pos (by omega), asrt_pos (by omega), ec, hv, Option.bind_some, w64_of (by omega)]
        by_cases h : geti l i ∈ l.take i
        · right
          refine ⟨.ret 6, by rw [if_pos (decide_eq_true (hvi.2 h))], ?_⟩
          rw [if_neg]
          intro hn
          have h2 : (l.take (i + 1)).Nodup := hn.sublist (List.take_sublist _ _)
          rw [List.take_add_one, hg, List.nodup_append] at h2
          exact h2.2.2 _ h _ (by simp) rfl
        · left
          refine ⟨(), by rw [if_neg (by rw [decide_eq_true_eq]; exact fun q => h (hvi.1 q))]; rfl, ?_⟩
          rw [List.take_add_one, hg, List.nodup_append]
          refine ⟨hI, by simp, fun x hx y hy e => ?_⟩
          simp at hy
          rw [e, hy] at hx
          exact h hx) (by
        rintro - hI
        rw [List.take_length] at hI
        exact ⟨.go (), by simp only [gameroomref_CardsMay_L2]; rw [if_neg (by simp)], by rw [if_pos hI]⟩)
      obtain ⟨r, hr, rfl⟩ := key
      have hr' : loop (gameroomref_CardsMay_L2 l) 0 = _ := hr
      rw [hr', Option.bind_some]
      by_cases h : l.Nodup
      · rw [if_pos h, if_pos h]; rfl
      · rw [if_neg h, if_neg h]; rfl
  · intro i x hx hp
    have hb := idx_bd hx
    simp only [gameroomref_CardsMay_L1, gameroomref_CardsMay_J2]
    rw [if_pos (by simpa using hb.2), asrt_pos hb, geti_some hx]
    simp only [gameroomref_within_m, Option.bind_some]
    rw [if_pos (by rw [← strB_in]; exact hp)]
  · intro i x hx hp
    have hb := idx_bd hx
    simp only [gameroomref_CardsMay_L1, gameroomref_CardsMay_J2]
    rw [if_pos (by simpa using hb.2), asrt_pos hb, geti_some hx]
    simp only [gameroomref_within_m, Option.bind_some]
    rw [if_neg (by rw [← strB_in, hp]; simp)]
    simp only [gameroomref_CardsMay_J3]
    rw [w64_succ (by omega)]
  · simp only [gameroomref_CardsMay_L1]
    rw [if_neg (by simp)]

/-- How strong a card is. -/
def pow (l : List Int) (s c : Int) : Int := if c % 4 = s then 200 + c else if c % 4 = geti l 0 % 4 then 100 + c else 0
theorem pow_p {l : List Int} {s c : Int} (hl : l.length = 4) (hc : 0 ≤ c ∧ c ≤ 51) (h0 : 0 ≤ geti l 0) : bridge_winner_1_m c s l = some (pow l s c) := by
  unfold bridge_winner_1_m bridge_winner_1_J1 pow
  rw [asrt_pos (by omega), Int.tmod_eq_emod_of_nonneg hc.1, Int.tmod_eq_emod_of_nonneg h0, w64_of (x := 200 + c) (by omega), w64_of (x := 100 + c) (by omega)]
  simp only [beq_iff_eq]
  split
  · rfl
  · split <;> rfl

theorem win_both {l : List Int} {s : Int} (hl : l.length = 4) (hc : ∀ i : Nat, i < 4 → 0 ≤ geti l i ∧ geti l i ≤ 51) : ∃ v : Nat, v < 4 ∧ bridge_winner_m l s = some (v : Int) ∧ gameroomref_TrickWinner_m l s = some (v : Int) := by
  have hc0 : 0 ≤ geti l 0 ∧ geti l 0 ≤ 51 := hc 0 (by omega)
  have h0 : 0 ≤ geti l 0 := hc0.1
  have s0 : bridge_winner_L1 l s (0, 0) = some (.next (0, 1)) := by
    simp only [bridge_winner_L1]
    rw [if_pos (decide_eq_true (by omega))]
    unfold bridge_winner_J2 bridge_winner_J4 bridge_winner_J3
    rw [asrt_pos (by omega), asrt_pos (by omega), pow_p hl hc0 h0, Option.bind_some, Option.bind_some, w64_of (by omega)]
    simp
  have key := count_loop2' (step1 := bridge_winner_L1 l s) (step2 := gameroomref_TrickWinner_L1 l s) (fun (b : Int) (i : Nat) => (b, (i : Int) + 1)) (fun b i => (b, (i : Int) + 1)) (fun _ b => (∃ k : Nat, k < 4 ∧ b = k) ∧ (geti l b % 4 = s ∨ geti l b % 4 = geti l 0 % 4)) (fun r1 r2 => r1 = r2 ∧ ∃ k : Nat, k < 4 ∧ r1 = k) 3 0 ⟨⟨0, by omega, rfl⟩, Or.inr rfl⟩ (by
    rintro i b hi ⟨⟨k, hk, rfl⟩, hI⟩
    have hb := hc k hk
    have hi1 := hc (i + 1) (by omega)
    have ei : ((i + 1 : Nat) : Int) = (i : Int) + 1 := rfl
    rw [ei] at hi1
    have e1 : bridge_winner_L1 l s ((k : Int), (i : Int) + 1) = bridge_winner_J2 l s k ((i : Int) + 1) := if_pos (decide_eq_true (by omega))
    have e2 : gameroomref_TrickWinner_L1 l s ((k : Int), (i : Int) + 1) = gameroomref_TrickWinner_J2 l s k ((i : Int) + 1) := if_pos (decide_eq_true (by omega))
    rw [e1, e2]
    unfold bridge_winner_J2 bridge_winner_J4 bridge_winner_J3 gameroomref_TrickWinner_J2 gameroomref_TrickWinner_J3
    rw [asrt_pos (by omega), asrt_pos (by omega), asrt_pos (by omega), asrt_pos (by omega), pow_p hl hi1 h0, pow_p hl hb h0, Option.bind_some, Option.bind_some, w64_of (by omega), Int.tmod_eq_emod_of_nonneg hi1.1, Int.tmod_eq_emod_of_nonneg hb.1]
    have eq : decide (pow l s (geti l k) < pow l s (geti l ((i : Int) + 1))) = (((geti l ((i : Int) + 1) % 4 == geti l (k : Int) % 4) && decide (geti l (k : Int) < geti l ((i : Int) + 1))) || ((geti l ((i : Int) + 1) % 4 != geti l (k : Int) % 4) && (geti l ((i : Int) + 1) % 4 == s))) := by
      rw [Bool.eq_iff_iff]
      simp only [decide_eq_true_eq, Bool.or_eq_true, Bool.and_eq_true, beq_iff_eq, bne_iff_ne]
      unfold pow
      split <;> split <;> (try split) <;> (try split) <;> omega
    rw [← eq]
    by_cases q : pow l s (geti l k) < pow l s (geti l ((i : Int) + 1))
    · rw [decide_eq_true q]
      refine ⟨(i : Int) + 1, rfl, rfl, ⟨i + 1, by omega, rfl⟩, ?_⟩
      have hpb : 0 ≤ pow l s (geti l k) := by unfold pow; split <;> (try split) <;> omega
      have hpi : pow l s (geti l ((i : Int) + 1)) ≠ 0 := by omega
      unfold pow at hpi
      split at hpi
      · left; assumption
      · split at hpi
        · right; assumption
        · exact absurd rfl hpi
    · rw [decide_eq_false q]
      exact ⟨k, rfl, rfl, ⟨k, hk, rfl⟩, hI⟩) (by
    rintro b ⟨⟨k, hk, rfl⟩, hI⟩
    refine ⟨k, k, ?_, ?_, rfl, k, hk, rfl⟩
    · simp only [bridge_winner_L1]
      rw [if_neg (by simp; omega)]
    · simp only [gameroomref_TrickWinner_L1]
      rw [if_neg (by simp)])
  obtain ⟨r1, r2, k1, k2, rfl, k9, hk9, rfl⟩ := key
  have k1' : loop (bridge_winner_L1 l s) (0, 1) = some (k9 : Int) := k1
  have k2' : loop (gameroomref_TrickWinner_L1 l s) (0, 1) = some (k9 : Int) := k2
  unfold bridge_winner_m gameroomref_TrickWinner_m
  rw [loop_next' s0 k1', k2']
  exact ⟨k9, hk9, rfl, rfl⟩

theorem any_take {l : List Int} {p : Int → Bool} {i : Nat} (hi : i < l.length) : (l.take (i + 1)).any p = ((l.take i).any p || p (geti l i)) := by
  rw [List.take_add_one, get_geti hi, List.any_append]
  simp

theorem contains2_p {l : List Int} (v : Int) (hs : l.length ≤ 17592186044416) : slices_ContainsFunc_2_m l v = some (l.any (fun x => Int.tmod x 4 == Int.tmod v 4)) := by
  unfold slices_ContainsFunc_2_m slices_IndexFunc_2_m
  rw [search_loop (l := l) (fun x => Int.tmod x 4 == Int.tmod v 4) (fun i => Fl.ret (i : Int)) (Fl.go ()) ?_ ?_ ?_]
  · have hn := fidx_neg (fun x => Int.tmod x 4 == Int.tmod v 4) l
    unfold fidx at hn
    cases hf : l.findIdx? (fun x => Int.tmod x 4 == Int.tmod v 4) with
    | none =>
      rw [hf] at hn
      have : l.any (fun x => Int.tmod x 4 == Int.tmod v 4) = false := by
        rw [Bool.eq_false_iff]
        intro h; have := hn.2 h; simp at this
      rw [this]; rfl
    | some i =>
      rw [hf] at hn
      have : l.any (fun x => Int.tmod x 4 == Int.tmod v 4) = true := hn.1 (by simp)
      rw [this]
      simp [slices_IndexFunc_2_K1]
  · intro i x hx hp
    have hb := idx_bd hx
    simp only [slices_IndexFunc_2_L1, slices_IndexFunc_2_J2]
    rw [if_pos (by simpa using hb.2), asrt_pos hb, geti_some hx]
    simp only [bridge_may_1_m, Option.bind_some]
    exact if_pos hp
  · intro i x hx hp
    have hb := idx_bd hx
    simp only [slices_IndexFunc_2_L1, slices_IndexFunc_2_J2]
    rw [if_pos (by simpa using hb.2), asrt_pos hb, geti_some hx]
    simp only [bridge_may_1_m, Option.bind_some]
    rw [if_neg (by rw [hp]; simp)]
    simp only [slices_IndexFunc_2_J3]
    rw [w64_succ (by omega)]
  · simp only [slices_IndexFunc_2_L1]
    rw [if_neg (by simp)]

theorem play_r {l : List Int} (led card : Int) (hs : l.length ≤ 17592186044416) : gameroomref_PlayMay_m l led card = bridge_may_m l led card := by
  unfold gameroomref_PlayMay_m bridge_may_m
  by_cases h : led < 0
  · rw [if_pos (decide_eq_true h), decide_eq_true h]
    rfl
  · rw [if_neg (by simpa using h), decide_eq_false h, contains2_p led hs]
    unfold gameroomref_PlayMay_J1
    have key := count_loop (step := gameroomref_PlayMay_L1 l led) (fun (s : Bool) (i : Nat) => (s, (i : Int))) (fun n s => s = (l.take n).any (fun x => Int.tmod x 4 == Int.tmod led 4)) (fun r => r = l.any (fun x => Int.tmod x 4 == Int.tmod led 4)) l.length false (by simp) (by
      rintro i s hi rfl
      left
      refine ⟨_, ?_, rfl⟩
      simp only [gameroomref_PlayMay_L1]
      rw [if_pos (decide_eq_true (by omega))]
      unfold gameroomref_PlayMay_J3 gameroomref_PlayMay_J4
      rw [asrt_pos (fun _ => by omega), any_take hi, w64_of (by omega)]
      rfl) (by
      rintro s rfl
      refine ⟨_, ?_, rfl⟩
      simp only [gameroomref_PlayMay_L1]
      rw [if_neg (by simp), List.take_length])
    obtain ⟨r, hr, rfl⟩ := key
    have hr' : loop (gameroomref_PlayMay_L1 l led) (false, 0) = _ := hr
    rw [hr', Option.bind_some]
    simp only [gameroomref_PlayMay_K1, gameroomref_PlayMay_J2]
    cases (Int.tmod card 4 == Int.tmod led 4) <;> cases l.any (fun x => Int.tmod x 4 == Int.tmod led 4) <;> rfl

end Go.Proofs.Ytlpaklmfgldkoaa
