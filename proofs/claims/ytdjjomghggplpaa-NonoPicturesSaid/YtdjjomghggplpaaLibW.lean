/-
  A small library of our own: equality of structs and arrays; a row appended to rows; parts of arrays in blocks as slices.
-/
import Derived.Test.YtdjjomghggplpaaLibV
import Derived.Laws.StructEq
namespace Go.GL
open Go Go.RowKit
variable {Ds : List Nat} {ro : Option Nat}

theorem part_one {P : Program} {t : TypeId} {cs : Array Value} {o : Nat} {v : Value} (hag : runPure P (isAgg t) = some false) (hv : cs[o]? = some v) (w : World) : (part t cs o).run P w = .ok v w := by
  simp [part, runPure_run _ hag, hv]
/-- Fields that are one cell each, in a row: equal one by one. -/
def eqBs : List Bool → Bool
  | [] => true
  | [b] => b
  | b :: bs => b && eqBs bs
theorem eqBs_cons (b : Bool) (bs : List Bool) : eqBs (b :: bs) = (b && eqBs bs) := by cases bs <;> simp [eqBs]
def FEq (P : Program) (d : Nat) (w : World) (xs ys : Array Value) : List Field → List Bool → Prop
  | [], [] => True
  | f :: fs, b :: bs => (f.name ≠ "_" ∧ runPure P (isAgg f.type) = some false ∧ ∃ x y, xs[f.offset]? = some x ∧ ys[f.offset]? = some y ∧ (Op.equalIn d f.type x y).run P w = .ok b w) ∧ FEq P d w xs ys fs bs
  | _, _ => False
theorem eqFields_run {P : Program} {d : Nat} {xs ys : Array Value} {w : World} : ∀ (fs : List Field) (bs : List Bool), FEq P d w xs ys fs bs → (Op.eqFields d xs ys fs).run P w = .ok (eqBs bs) w
  | [], [], _ => by simp [Op.eqFields, eqBs]
  | [], _ :: _, h => h.elim
  | _ :: _, [], h => h.elim
  | f :: fs, b :: bs, ⟨⟨h1, h2, x, y, h3, h4, h5⟩, h⟩ => by
    have ih := eqFields_run fs bs h
    rw [eqBs_cons]
    simp only [Op.eqFields, if_pos h1, Sem.run_bind, part_one h2 h3, part_one h2 h4, Result.andThen_ok, h5]
    cases b
    · simp
    · simpa using ih
theorem eq_struct {P : Program} {t : TypeId} {xs ys : Array Value} {w : World} {fs : Array Field} (bs : List Bool) (ht : P.underlying t = some (.struct fs)) (hp : P.stoodInHeld t = false)
    (h : FEq P 9999 w xs ys fs.toList bs) : (Op.equal t (.agg xs) (.agg ys)).run P w = .ok (eqBs bs) w := by
  show (Op.equalIn (9999 + 1) t (.agg xs) (.agg ys)).run P w = _
  have hf : P.fieldsOf t = fs := by simp [Program.fieldsOf, ht]
  rw [run_equalIn_struct w 9999 t xs ys (by rw [hf]; exact ht) hp, hf]
  exact eqFields_run _ bs h
/-- Elements of one cell each. -/
def AEq (P : Program) (d : Nat) (w : World) (e : TypeId) (xs ys : Array Value) : Nat → List Bool → Prop
  | _, [] => True
  | i, b :: bs => (∃ x y, xs[i]? = some x ∧ ys[i]? = some y ∧ (Op.equalIn d e x y).run P w = .ok b w) ∧ AEq P d w e xs ys (i + 1) bs
theorem eq_array_d {P : Program} {t e : TypeId} {n d : Nat} {xs ys : Array Value} {w : World} (bs : List Bool) (ht : P.underlying t = some (.array n e)) (hs : runPure P (sizeOf e) = some 1) (hag : runPure P (isAgg e) = some false) (hn : bs.length = n)
    (h : AEq P d w e xs ys 0 bs) : (Op.equalIn (d + 1) t (.agg xs) (.agg ys)).run P w = .ok (eqBs bs) w := by
  subst hn
  simp only [Op.equalIn, Sem.run_bind, run_underlying ht, Result.andThen_ok, runPure_run _ hs, Std.Legacy.Range.forIn_eq_forIn_range', Std.Legacy.Range.size, Nat.mul_one]
  simp only [Nat.sub_zero, Nat.add_sub_cancel, Nat.div_one]
  generalize hq : (0 : Nat) = s at h ⊢
  clear hq ht
  induction bs generalizing s with
  | nil => simp [eqBs]
  | cons b bs ih =>
    obtain ⟨⟨x, y, h3, h4, h5⟩, h⟩ := h
    rw [eqBs_cons, List.length_cons, List.range'_succ, List.forIn_cons]
    simp only [Sem.run_bind, part_one hag h3, part_one hag h4, Result.andThen_ok, h5]
    cases b
    · simp
    · simpa using ih (s + 1) h
theorem eqv_int {P : Program} {w : World} {t : TypeId} {k k' : IntKind} {a b : Int} (h : P.underlying t = some (.int k')) : (Op.equalIn 9999 t (.int k a) (.int k b)).run P w = .ok (a == b) w := run_equalIn_int w 9998 t k k' a b h
theorem all_one {us : Array Value} (h : us.toList.all (fun u => u.oneCell') = true) : ∀ u ∈ us.toList, u.oneCell' = true := List.all_eq_true.1 h

/-! ### A row appended to rows -/
def rowsTail (ei : TypeId) (hd : List Hd) (m : List (List Int)) : HP where
  at_ w f := hd.length = m.length ∧ SepL w (rowHP ei hd m) f
  loc := fun hk h => ⟨h.1, h.2.loc hk⟩

section
variable {P : Program} {w0 w : World} {B : Nat} {l r ps : List HP} {t e ei : TypeId} {inf : TypeInfo} {A : Option Addr} {n c : Nat} {hd : List Hd} {m : List (List Int)}

theorem Sep.rowsSplit (h : Sep w0 B w (l ++ rows e ei (.slice A n c) hd m :: r)) : Sep w0 B w (rowsTail ei hd m :: (l ++ own e (.slice A n c) (hdV hd m) :: r)) :=
  h.split fun f ⟨hl, hs⟩ => by
    cases hs with
    | cons h1 h2 h3 =>
      rename_i f1 f2 _
      exact ⟨f2, f1, ⟨hl, h2⟩, h1, fun k hk hk' => h3 k hk' hk, fun k hk => by rcases hk with h | h <;> simp [h]⟩

theorem rowHP_snoc (hl : hd.length = m.length) (A1 : Option Addr) (c1 : Nat) (row : List Int) : rowHP ei (hd ++ [(A1, c1)]) (m ++ [row]) = rowHP ei hd m ++ [own ei (.slice A1 row.length c1) (vI row)] := by
  simp [rowHP, List.zipWith_append hl]
theorem hdV_snoc (hl : hd.length = m.length) (A1 : Option Addr) (c1 : Nat) (row : List Int) : hdV (hd ++ [(A1, c1)]) (m ++ [row]) = hdV hd m ++ [.slice A1 row.length c1] := by
  simp [hdV, List.zipWith_append hl]

/-- append(rows, row). -/
theorem run_appRow {A1 A2 : Option Addr} {c1 c2 : Nat} {row : List Int} (hS : Sep w0 B w (own ei (.slice A1 row.length c1) (vI row) :: (l ++ rows e ei (.slice A n c) hd m :: r)))
    (hr : Rd w w.heap.size A2 [.slice A1 row.length c1]) (ty : TypeId)
    (ht : P.underlying t = some (.slice e)) (hi : P.info? e = some inf) (hz : inf.zero = some (.slice none 0 0)) (hs : inf.size = 1) (hby : inf.bytes = 24) (hl : (n : Int) + 1 ≤ bigR) :
    ∃ A' c' w', (vS (Builtin.append_ #[t, t] ty #[.slice A n c, .slice A2 1 c2])).run P w = .ok (.value (.slice A' (m ++ [row]).length c')) w' ∧ Sep w0 B w' (l ++ rows e ei (.slice A' (m ++ [row]).length c') (hd ++ [(A1, c1)]) (m ++ [row]) :: r) := by
  have hn : n = m.length := by
    have := Sep.lenR (l := own ei (.slice A1 row.length c1) (vI row) :: l) hS
    exact this
  have hlen : hd.length = m.length := by
    obtain ⟨f, hf, _⟩ := Sep.get (l := own ei (.slice A1 row.length c1) (vI row) :: l) hS
    exact hf.1
  have h1 := Sep.rowsSplit (l := own ei (.slice A1 row.length c1) (vI row) :: l) hS
  -- the headers' row
  have h2 : Sep w0 B w ((rowsTail ei hd m :: own ei (.slice A1 row.length c1) (vI row) :: l) ++ own e (.slice A n c) (hdV hd m) :: r) := h1
  obtain ⟨f, ⟨hf, hf2⟩, hfb⟩ := h2.get
  have hvl : (hdV hd m).length = m.length := hdV_length hlen
  cases hA2 : A2 with
  | none =>
    subst hA2
    obtain ⟨ad, hx, _⟩ := hr 0 _ rfl
    cases hx
  | some a =>
    subst hA2
    have hcells : ∀ j u, [Value.slice A1 row.length c1][j]? = some u → w.cell? (a.add j) = some u := fun j u hu => by
      obtain ⟨ad, h, _, hc⟩ := hr j u hu
      injection h with h
      subst h
      exact hc
    have hb : (n + 1) * inf.bytes ≤ 140737488355328 := by
      rw [hby]
      unfold bigR at hl
      omega
    have hf' : w.ownsRow 0 e 1 (.slice A n c) n (hdV hd m) := by rw [hvl, ← hn] at hf; exact hf
    obtain ⟨v', w', hrun, hown, hg, _, hbl⟩ := run_append_own_at (P := P) w 0 t ty e inf _ 1 inf.bytes ht hi hz hs rfl rfl (by omega) (.slice A n c) n _ hf' a 1 c2 [.slice A1 row.length c1] (by simp) hcells (by simp [Value.oneCell'])
      (by unfold maxLen; unfold bigR at hl; omega) hb (Nat.zero_le _)
    have hown' : w'.ownsRow 0 e 1 v' (m ++ [row]).length (hdV (hd ++ [(A1, c1)]) (m ++ [row])) := by rw [hdV_snoc hlen, List.length_append, ← hn]; exact hown
    obtain ⟨A', c', rfl, _⟩ := own_formK hown'
    have hl2 : (hd ++ [(A1, c1)]).length = (m ++ [row]).length := by simp [hlen]
    refine ⟨A', c', w', vS_run hrun, ?_⟩
    have h3 : Sep w0 B w' ((rowsTail ei hd m :: own ei (.slice A1 row.length c1) (vI row) :: l) ++ own e (.slice A' (m ++ [row]).length c') (hdV (hd ++ [(A1, c1)]) (m ++ [row])) :: r) :=
      h2.upd fun f' hf' hb' => ⟨_, ⟨by rw [hdV_length hl2]; exact hown', rfl⟩, by rw [hf'.2]; exact Ex.of_grown hg, (by
        intro k hk
        rw [hf'.2]
        rcases hbl with h | h
        · rw [h] at hk; exact .inl hk
        · rw [h] at hk
          simp at hk
          exact .inr (by omega)), own_blockK hown'⟩
    -- the new row joins the others
    have h4 : Sep w0 B w' (rowsTail ei (hd ++ [(A1, c1)]) (m ++ [row]) :: (l ++ own e (.slice A' (m ++ [row]).length c') (hdV (hd ++ [(A1, c1)]) (m ++ [row])) :: r)) := by
      refine Sep.join (l := []) (p1 := own ei (.slice A1 row.length c1) (vI row)) (p2 := rowsTail ei hd m) (r := l ++ own e (.slice A' (m ++ [row]).length c') (hdV (hd ++ [(A1, c1)]) (m ++ [row])) :: r) ?_ ?_
      · have := Sep.move (l := []) (p := rowsTail ei hd m) (r := own ei (.slice A1 row.length c1) (vI row) :: l ++ own e (.slice A' (m ++ [row]).length c') (hdV (hd ++ [(A1, c1)]) (m ++ [row])) :: r) (l' := [own ei (.slice A1 row.length c1) (vI row)]) (r' := l ++ own e (.slice A' (m ++ [row]).length c') (hdV (hd ++ [(A1, c1)]) (m ++ [row])) :: r) h3 rfl
        exact this
      · rintro f1 f2 h5 ⟨h6, h7⟩ h8
        have h9 := SepL.cons h5 SepL.nil (by simp)
        obtain ⟨z, hz', hm'⟩ := SepL.append h7 h9 (fun k hk hk' => h8 k (by simpa using hk') hk)
        refine ⟨z, ⟨hl2, by rw [rowHP_snoc hlen]; exact hz'⟩, fun k hk => ?_⟩
        rcases (hm' k).1 hk with h | h
        · exact .inr h
        · exact .inl (by simpa using h)
    refine Sep.join h4 ?_
    rintro f1 f2 ⟨h5, h6⟩ h7 h8
    exact ⟨f2 ++ f1, ⟨hl2, .cons h7 h6 (fun k hk hk' => h8 k hk' hk)⟩, fun k hk => by
      rcases List.mem_append.1 hk with h | h
      · exact .inr h
      · exact .inl h⟩
end


theorem done_b {S R T : Type} {step : S → Option (St S R)} {n : Nat} {K : R → Option T} {x : R} {r : T} (h : (some (St.done x)).bind (stK step n K) = some r) : K x = some r := h

section
variable {P : Program} {ops : Array Oper} {C : World → Prop} {Q : Exit → Act → World → Prop} {S : World → Prop} {l : List Oper} {a : Act} {w : World}
theorem wpList_of_qW {rest : List Oper} : ∀ (l : List Oper) (a : Act), C w → wpQ P ops C true (fun a' => listR P ops Q rest a' w) l a → listR P ops Q (l ++ rest) a w
  | [], _, _, h => h
  | o :: l, a, hC, h => by
    unfold wpQ at h
    rw [List.cons_append]
    unfold listR
    split
    · rename_i hw
      rw [if_pos hw] at h
      obtain ⟨v, h1, h2⟩ := h
      have hr : (execOp a.eval o).run P w = .ok (.value v) w := by
        unfold Oper.q at h1
        split at h1
        · exact h1 w
        · exact h1 w hC
        · rename_i hx; cases hx
      unfold oR
      rw [hr, upR_value]
      exact wpList_of_qW l _ hC h2
    · rename_i hw
      rw [if_neg hw] at h
      exact wpList_of_qW l _ hC h

theorem at_runW {w0 : World} {B n : Nat} {ρ : Env} {ps : List HP} {arr : Array Oper} {k : Nat} (m : Nat) (obs : List Ob) (orc : List (Option Value)) (ts : List Nat) (τ : Env) (hF : FrD Ds n ρ a) (hS : Sep w0 B w ps) (hdst : dstOk n ((l.drop k).take m) = true)
    (hev : (evR P arr ((l.drop k).take m) orc ρ).map (fun x => (x.1.sel ts, x.2)) = some (τ, obs)) (hob : ∀ b ∈ obs, b.holds P (fun w' => Sep w0 B w' ps) true)
    (hK : ∀ a', FrD Ds n τ a' → wpAt P arr l Q (k + m) a' w) : wpAt P arr l Q k a w := by
  unfold wpAt
  cases hx : evR P arr ((l.drop k).take m) orc ρ with
  | none => rw [hx] at hev; simp at hev
  | some x =>
    rw [hx] at hev
    simp at hev
    obtain ⟨ρ1, obs1⟩ := x
    simp only at hev
    obtain ⟨e1, e2⟩ := hev
    rw [← List.take_append_drop m (l.drop k)]
    refine wpList_of_qW (C := fun w' => Sep w0 B w' ps) _ a hS ?_
    refine evR_q (P := P) (ops := arr) (C := fun w' => Sep w0 B w' ps) (x := true) _ orc ρ ρ1 _ a hx hdst (e2 ▸ hob) hF fun a' hF' => ?_
    have := hK a' (hF'.weak ts e1)
    unfold wpAt at this
    rw [List.drop_drop]
    exact this

theorem any_finI {es : List Nat} {f i : Nat} {listed : Array Bool} {w1 : World} {lt : List Oper} {k : Nat} (hk : lt.drop k = []) (h1 : S w1 → S w) (h2 : wpAnyG P l.toArray (noPanic Q) S (effT es) f listed a w) : wpAt P l.toArray lt (keepK (TK P l Q S es f listed i w1) (noPanic Q)) k a w :=
  at_fin hk ⟨fun _ => h1, h2⟩
end


/-! ### Recursion: what answers with little fuel answers alike with more -/
theorem Le.trans' {α : Type} {a b c : Option α} (h : Le a b) (k : Le b c) : Le a c := fun r hr => k r (h r hr)
theorem Le.loopN2 {S R : Type} {step step' : S → Option (St S R)} (h : ∀ s, Le (step s) (step' s)) : ∀ (n : Nat) (s : S), Le (loopN step n s) (loopN step' n s)
  | 0, _ => Le.refl _
  | n + 1, s => by
    intro r hr
    simp only [loopN] at hr ⊢
    cases hs : step s with
    | none => rw [hs] at hr; cases hr
    | some o =>
      rw [hs] at hr
      rw [h s o hs]
      cases o with
      | next s' => exact Le.loopN2 h n s' r hr
      | done r' => exact hr
theorem Le.loop2 {S R : Type} {step step' : S → Option (St S R)} {s : S} (h : ∀ s, Le (step s) (step' s)) : Le (GL.loop step s) (GL.loop step' s) := by
  intro r hr
  obtain ⟨n, hn⟩ := loop_to hr
  exact loop_of (Le.loopN2 h n s r hn)
theorem Le.elim2 {α β γ : Type} {r : Fl α β} {f f' : α → Option γ} {g g' : β → Option γ} (h : ∀ x, Le (f x) (f' x)) (k : ∀ x, Le (g x) (g' x)) : Le (Fl.elim2 r f g) (Fl.elim2 r f' g') := by
  cases r with
  | go x => exact h x
  | ret x => exact k x
theorem recM_mono {R : Type} {F : Nat → Option R} (hm : ∀ n, Le (F n) (F (n + 1))) {n : Nat} {r : R} (h : F n = some r) : recM F = some r := by
  have hk : ∀ k n, Le (F n) (F (n + k)) := by
    intro k
    induction k with
    | zero => exact fun n => Le.refl _
    | succ k ih => exact fun n => Le.trans' (ih n) (hm (n + k))
  refine recM_of (fun m r' h' => ?_) n h
  rcases Nat.le_total n m with hnm | hnm
  · have := hk (m - n) n r h
    rw [show n + (m - n) = m by omega, h'] at this
    exact Option.some.inj this
  · have := hk (n - m) m r' h'
    rw [show m + (n - m) = n by omega, h] at this
    exact (Option.some.inj this).symm

end Go.GL
