/-
  slices.CompactFunc at rows of the call's own, with slices.Equal.
-/
import Derived.Test.YtoickcchcjehdaaSRd
namespace Go.Proofs.Ytoickcchcjehdaa
open Go Go.GL Go.Shelf Go.RowKit Go.Lib Go.Sort Go.Proofs

theorem hdV_getD {hd : List Hd} {m : List (List Int)} (hl : hd.length = m.length) {j : Nat} (hj : j < m.length) : (hdV hd m).getD j (.slice none 0 0) = hvN hd m j := by
  have h := hdV_get hl (i := (j : Int)) ⟨by omega, by omega⟩
  rw [Int.toNat_natCast] at h
  rw [List.getD_eq_getElem?_getD, h]
  rfl

theorem compR_own {et ei : TypeId} {A : Option Addr} {n c : Nat} {hd : List Hd} {m : List (List Int)} {w0 w : World} {B : Nat} {fs : List HP} (hS : Sep w0 B w (rows et ei (.slice A n c) hd m :: fs)) (hmx : (m.length : Int) ≤ bigN) :
    Calls Try.prog 134 #[.slice A n c, .func (.func 126) #[] #[]] w fun e w' => ∃ v, e = .returned v ∧ ∃ (A' : Option Addr) (c' : Nat) (hd' : List Hd), v = .slice A' (compR m).length c' ∧ Sep w0 B w' (rows et ei (.slice A' (compR m).length c') hd' (compR m) :: fs) := by
  have hn : n = m.length := (Sep.rowsLen (l := []) hS).1
  subst hn
  by_cases hm0 : m = []
  · subst hm0
    have h : Calls Try.prog 134 #[.slice A 0 c, .func (.func 126) #[] #[]] w fun e w' => e = .returned (.slice A 0 c) ∧ w' = w := by
      go_enter Try.func134, Try.ntmps134
      go_wp2
      go_ret
      exact ⟨rfl, rfl⟩
    refine h.mono ?_
    rintro e w' ⟨rfl, rfl⟩
    exact ⟨_, rfl, A, c, hd, rfl, hS⟩
  obtain ⟨f, ⟨hl, hf⟩, hb⟩ := Sep.get (l := []) hS
  have hpos : 0 < m.length := List.length_pos_iff.2 hm0
  have hf0 := hf
  cases hf0 with
  | @cons _ _ f1 u ho hr hd1 =>
    obtain ⟨hown, hf1⟩ := ho
    rcases hown.2 with ⟨hv, h0⟩ | ⟨b, cap, cur, hv, h1, h2, h3, h4, h5, h6⟩
    · rw [hdV_length hl] at h0; omega
    · rw [hdV_length hl] at hv h3 h6
      cases hv
      rw [Nat.mul_one] at h6
      have hf1' : f1 = [b] := by rw [hf1]; rfl
      have hdl : (hdV hd m).length = m.length := hdV_length hl
      have hH : Holds id w b 0 (hdV hd m).toArray := by
        refine holds_of_blockE h2 ?_
        rw [List.size_toArray, hdl, h6, List.map_id]
      have hbig : m.length ≤ 9223372036854775807 := by unfold bigN at hmx; omega
      have hrl : (rowHP ei hd m).length = m.length := by unfold rowHP; rw [List.length_zipWith]; omega
      have hC := compR_arr b 0 c m.length (hdV hd m) m w rfl hdl hH hbig h3 (fun j hj => ⟨_, _, _, hdV_getD hl hj⟩) ?_
      · refine hC.mono ?_
        rintro e w' ⟨rfl, q, vs, hvl, htk, hw⟩
        have hlc : (keptR m m.length).length = (compR m).length := by unfold compR; rw [List.length_map]
        rw [hlc] at htk ⊢
        have htk2 : vs.take (compR m).length = (keptR m m.length).map (hvN hd m) := by
          rw [htk]
          refine List.map_congr_left fun j hj => ?_
          unfold keptR at hj
          exact hdV_getD hl (List.mem_range.1 (List.mem_filter.1 hj).1)
        obtain ⟨hd', hS'⟩ := compR_close hS hvl htk2 hw
        exact ⟨_, rfl, _, c, hd', rfl, hS'⟩
      · intro i j q vs hvl hi hj
        have hx := Ex.of_grown (grownBy_sortedE (enc := id) (w := w) (g := b) (n := q) (os := #[]) vs.toArray)
        rw [grow_empty] at hx
        obtain ⟨F, g1, g2, g3⟩ := hr.fn
        have rowAt : ∀ i : Nat, i < m.length → RowAt (putRow id (Sort.ahead w q) b 0 vs.toArray) (hdA hd (i : Int)) (geti2 m (i : Int)) ∧ (geti2 m (i : Int)).length ≤ maxLen := fun i hi => by
          have h7 := rowHP_get (ei := ei) hl (i := (i : Int)) ⟨by omega, by omega⟩
          have h8 := g1 _ _ h7
          have hi' : ((i : Int)).toNat < (rowHP ei hd m).length := by rw [hrl, Int.toNat_natCast]; exact hi
          have h9 : (own ei (.slice (hdA hd (i : Int)) (geti2 m (i : Int)).length (hdC hd (i : Int))) (vI (geti2 m (i : Int)))).at_ (putRow id (Sort.ahead w q) b 0 vs.toArray) (F ((i : Int)).toNat) := by
            refine HP.loc _ (fun k hk => hx.block k ?_ ?_) h8
            · exact (hb k (List.mem_append_right _ (g3 _ k hi' hk))).2
            · intro h
              have : k = b := by simpa using h
              subst this
              exact hd1 k (by rw [hf1']; simp) (g3 _ k hi' hk)
          have h10 := own_max h9
          rw [List.length_map] at h10
          exact ⟨RowAt.of_own h9, h10⟩
        rw [hdV_getD hl hi, hdV_getD hl hj]
        have := eqR (hdA hd (i : Int)) (hdA hd (j : Int)) (hdC hd (i : Int)) (hdC hd (j : Int)) _ _ _ (rowAt i hi).1 (rowAt j hj).1 (Nat.le_trans (rowAt i hi).2 (by decide))
        have e : ∀ k : Nat, geti2 m (k : Int) = m.getD k [] := fun k => by unfold geti2; rw [Int.toNat_natCast]
        rw [e, e] at this
        unfold hvN
        rw [e, e]
        exact this
end Go.Proofs.Ytoickcchcjehdaa
