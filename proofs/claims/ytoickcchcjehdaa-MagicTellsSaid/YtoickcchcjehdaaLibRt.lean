/-
  A small library of our own: two rows appended to rows at once.
-/
import Derived.Test.YtoickcchcjehdaaLibW
namespace Go.GL
open Go Go.RowKit
section
variable {P : Program} {w0 w : World} {B : Nat} {l r ps : List HP} {t e ei : TypeId} {inf : TypeInfo} {A : Option Addr} {n c : Nat} {hd : List Hd} {m : List (List Int)}

theorem Sep.at3 {p1 p2 q : HP} (h : Sep w0 B w (p1 :: p2 :: ps)) (j : Nat) (he : ps[j]? = some q) : Sep w0 B w (p1 :: p2 :: (ps.take j ++ q :: ps.drop (j + 1))) := by
  obtain ⟨hi, hp⟩ := List.getElem?_eq_some_iff.1 he
  rw [← hp, List.getElem_cons_drop, List.take_append_drop]
  exact h

/-- A row joins the rows' tail. -/
theorem Sep.tailSnoc {A1 : Option Addr} {c1 : Nat} {row : List Int} (h : Sep w0 B w (own ei (.slice A1 row.length c1) (vI row) :: rowsTail ei hd m :: ps)) (hlen : hd.length = m.length) : Sep w0 B w (rowsTail ei (hd ++ [(A1, c1)]) (m ++ [row]) :: ps) := by
  refine Sep.join (l := []) (p1 := own ei (.slice A1 row.length c1) (vI row)) (p2 := rowsTail ei hd m) (r := ps) h ?_
  rintro f1 f2 h5 ⟨h6, h7⟩ h8
  have h9 := SepL.cons h5 SepL.nil (by simp)
  obtain ⟨z, hz', hm'⟩ := SepL.append h7 h9 (fun k hk hk' => h8 k (by simpa using hk') hk)
  refine ⟨z, ⟨by simp [hlen], by rw [rowHP_snoc hlen]; exact hz'⟩, fun k hk => ?_⟩
  rcases (hm' k).1 hk with h | h
  · exact .inr h
  · exact .inl (by simpa using h)

/-- append(rows, row, row). -/
theorem run_appRow2 {A1 A2 A3 : Option Addr} {c1 c2 c3 : Nat} {row row2 : List Int} (hS : Sep w0 B w (own ei (.slice A1 row.length c1) (vI row) :: own ei (.slice A2 row2.length c2) (vI row2) :: (l ++ rows e ei (.slice A n c) hd m :: r)))
    (hr : Rd w w.heap.size A3 [.slice A1 row.length c1, .slice A2 row2.length c2]) (ty : TypeId)
    (ht : P.underlying t = some (.slice e)) (hi : P.info? e = some inf) (hz : inf.zero = some (.slice none 0 0)) (hs : inf.size = 1) (hby : inf.bytes = 24) (hl : (n : Int) + 2 ≤ bigR) :
    ∃ A' c' w', (vS (Builtin.append_ #[t, t] ty #[.slice A n c, .slice A3 2 c3])).run P w = .ok (.value (.slice A' (m ++ [row, row2]).length c')) w' ∧ Sep w0 B w' (l ++ rows e ei (.slice A' (m ++ [row, row2]).length c') (hd ++ [(A1, c1), (A2, c2)]) (m ++ [row, row2]) :: r) := by
  have hn : n = m.length := Sep.lenR (l := own ei (.slice A1 row.length c1) (vI row) :: own ei (.slice A2 row2.length c2) (vI row2) :: l) hS
  have hlen : hd.length = m.length := by
    obtain ⟨f, hf, _⟩ := Sep.get (l := own ei (.slice A1 row.length c1) (vI row) :: own ei (.slice A2 row2.length c2) (vI row2) :: l) hS
    exact hf.1
  have h2 : Sep w0 B w ((rowsTail ei hd m :: own ei (.slice A1 row.length c1) (vI row) :: own ei (.slice A2 row2.length c2) (vI row2) :: l) ++ own e (.slice A n c) (hdV hd m) :: r) :=
    Sep.rowsSplit (l := own ei (.slice A1 row.length c1) (vI row) :: own ei (.slice A2 row2.length c2) (vI row2) :: l) hS
  obtain ⟨f, ⟨hf, hf2⟩, hfb⟩ := h2.get
  have hvl : (hdV hd m).length = m.length := hdV_length hlen
  have hms : m ++ [row, row2] = (m ++ [row]) ++ [row2] := by simp
  have hhs : hd ++ [(A1, c1), (A2, c2)] = (hd ++ [(A1, c1)]) ++ [(A2, c2)] := by simp
  have hlen1 : (hd ++ [(A1, c1)]).length = (m ++ [row]).length := by simp [hlen]
  rw [hms, hhs]
  cases hA3 : A3 with
  | none =>
    subst hA3
    obtain ⟨ad, hx, _⟩ := hr 0 _ rfl
    cases hx
  | some a =>
    subst hA3
    have hcells : ∀ j u, [Value.slice A1 row.length c1, Value.slice A2 row2.length c2][j]? = some u → w.cell? (a.add j) = some u := fun j u hu => by
      obtain ⟨ad, h, _, hc⟩ := hr j u hu
      injection h with h
      subst h
      exact hc
    have hb : (n + 2) * inf.bytes ≤ 140737488355328 := by
      rw [hby]
      unfold bigR at hl
      omega
    have hf' : w.ownsRow 0 e 1 (.slice A n c) n (hdV hd m) := by rw [hvl, ← hn] at hf; exact hf
    obtain ⟨v', w', hrun, hown, hg, _, hbl⟩ := run_append_own_at (P := P) w 0 t ty e inf _ 1 inf.bytes ht hi hz hs rfl rfl (by omega) (.slice A n c) n _ hf' a 2 c3 [.slice A1 row.length c1, .slice A2 row2.length c2] (by simp) hcells (by simp [Value.oneCell'])
      (by unfold maxLen; unfold bigR at hl; omega) hb (Nat.zero_le _)
    have hown' : w'.ownsRow 0 e 1 v' ((m ++ [row]) ++ [row2]).length (hdV ((hd ++ [(A1, c1)]) ++ [(A2, c2)]) ((m ++ [row]) ++ [row2])) := by
      rw [hdV_snoc hlen1, hdV_snoc hlen]
      have e1 : ((m ++ [row]) ++ [row2]).length = n + 2 := by simp [hn]
      rw [e1, List.append_assoc]
      exact hown
    obtain ⟨A', c', rfl, _⟩ := own_formK hown'
    have hl2 : ((hd ++ [(A1, c1)]) ++ [(A2, c2)]).length = ((m ++ [row]) ++ [row2]).length := by simp [hlen]
    refine ⟨A', c', w', vS_run hrun, ?_⟩
    have h3 : Sep w0 B w' ((rowsTail ei hd m :: own ei (.slice A1 row.length c1) (vI row) :: own ei (.slice A2 row2.length c2) (vI row2) :: l) ++ own e (.slice A' ((m ++ [row]) ++ [row2]).length c') (hdV ((hd ++ [(A1, c1)]) ++ [(A2, c2)]) ((m ++ [row]) ++ [row2])) :: r) :=
      h2.upd fun f' hf' hb' => ⟨_, ⟨by rw [hdV_length hl2]; exact hown', rfl⟩, by rw [hf'.2]; exact Ex.of_grown hg, (by
        intro k hk
        rw [hf'.2]
        rcases hbl with h | h
        · rw [h] at hk; exact .inl hk
        · rw [h] at hk
          simp at hk
          exact .inr (by omega)), own_blockK hown'⟩
    have h4 := (Sep.pickN h3 3 [1, 0, 2] (by decide) : Sep w0 B w' (own ei (.slice A1 row.length c1) (vI row) :: rowsTail ei hd m :: own ei (.slice A2 row2.length c2) (vI row2) :: (l ++ own e (.slice A' ((m ++ [row]) ++ [row2]).length c') (hdV ((hd ++ [(A1, c1)]) ++ [(A2, c2)]) ((m ++ [row]) ++ [row2])) :: r))).tailSnoc hlen
    have h5 := (Sep.pickN h4 2 [1, 0] (by decide) : Sep w0 B w' (own ei (.slice A2 row2.length c2) (vI row2) :: rowsTail ei (hd ++ [(A1, c1)]) (m ++ [row]) :: (l ++ own e (.slice A' ((m ++ [row]) ++ [row2]).length c') (hdV ((hd ++ [(A1, c1)]) ++ [(A2, c2)]) ((m ++ [row]) ++ [row2])) :: r))).tailSnoc hlen1
    refine Sep.join h5 ?_
    rintro f1 f2 ⟨h5, h6⟩ h7 h8
    exact ⟨f2 ++ f1, ⟨hl2, .cons h7 h6 (fun k hk hk' => h8 k hk' hk)⟩, fun k hk => by
      rcases List.mem_append.1 hk with h | h
      · exact .inr h
      · exact .inl h⟩
end
end Go.GL
