/-
  A small library of our own: strings as lists of bytes; slices of bytes and of strings as they come in, and appended.
-/
import Derived.Test.YtlpaklmfgldkoaaLibSt
import Derived.Test.YtlpaklmfgldkoaaLibAP
import Derived.Deep.Strs
import Derived.Lib.AppendStr
import Derived.Lib.ConvBytes
import Derived.Lib.SlBytesConst
namespace Go.GL
open Go Go.RowKit Go.ChangeShapes Go.WideShapes Go.ChangeAt
variable {Ds : List Nat} {ro : Option Nat}

def getU (s : List UInt8) (i : Int) : Int := ((s.getD i.toNat 0).toNat : Int)
def i8 (s : List UInt8) : List Int := s.map fun b => (b.toNat : Int)

theorem strV_get (s : List UInt8) (j : Nat) : (⟨s.toArray⟩ : ByteArray)[j]? = s[j]? := by
  by_cases h : j < s.length
  · have h1 : j < (⟨s.toArray⟩ : ByteArray).size := by simpa [ByteArray.size] using h
    rw [getElem?_pos (⟨s.toArray⟩ : ByteArray) j h1, getElem?_pos s j h]
    rfl
  · have h1 : ¬ j < (⟨s.toArray⟩ : ByteArray).size := by simpa [ByteArray.size] using h
    rw [getElem?_neg (⟨s.toArray⟩ : ByteArray) j h1, getElem?_neg s j h]

section
variable {P : Program} {C : World → Prop} {hyps : List (Bool × Bool)} {w0 w : World} {B : Nat} {l r ps : List HP} {A : Option Addr} {n c : Nat} {m : List Int} {t e : TypeId} {inf : TypeInfo} {s s1 s2 : List UInt8}

theorem ob_slen {x : Bool} (ht : P.underlying t = some .string) (ty : TypeId) : Ob.holds P C x ⟨true, hyps, vS (Builtin.len_ #[t] ty #[strV s]), .int .i64 (s.length : Int)⟩ :=
  Ob.any fun _ w => by
    simp only [Builtin.len_, List.getElem?_toArray, List.getElem?_cons_zero, Sem.run_bind, run_underlying ht, Result.andThen_ok]
    rfl

theorem ob_sidx {x : Bool} {k : IntKind} {i : Int} (ht : P.underlying t = some .string) (h : (∀ y ∈ hyps, y.1 = y.2) → 0 ≤ i ∧ i < (s.length : Int)) :
    Ob.holds P C x ⟨true, hyps, vS (Instr.index t (strV s) (.int k i)), .int .u8 (getU s i)⟩ :=
  Ob.any fun hy w => by
    obtain ⟨h0, h1⟩ := h hy
    have hl : i.toNat < s.length := by omega
    have h2 : (if 0 ≤ i then (⟨s.toArray⟩ : ByteArray)[i.toNat]? else none) = some (s.getD i.toNat 0) := by
      rw [if_pos h0, strV_get]
      simp [List.getElem?_eq_getElem hl, List.getD_eq_getElem?_getD]
    simp only [Instr.index, asIntOf, Sem.run_bind, run_underlying ht, Sem.run_pure, Result.andThen_ok]
    rw [h2]
    rfl

theorem strV_extract (a b : Nat) : (⟨s.toArray⟩ : ByteArray).extract a b = ⟨((s.drop a).take (b - a)).toArray⟩ := by
  apply ByteArray.ext
  simp [ByteArray.data_extract, List.extract_toArray, List.extract_eq_take_drop]

theorem ob_scut {x : Bool} {lo hi : Int} {vlo vhi : Option Value} {k k' : IntKind} (ht : P.underlying t = some .string) (h1 : vlo = some (.int k lo) ∨ vlo = none ∧ lo = 0) (h2 : vhi = some (.int k' hi) ∨ vhi = none ∧ hi = s.length)
    (h : (∀ y ∈ hyps, y.1 = y.2) → 0 ≤ lo ∧ lo ≤ hi ∧ hi ≤ (s.length : Int)) :
    Ob.holds P C x ⟨true, hyps, vS (Instr.sliceAt t (strV s) vlo vhi none), strV (cut s lo hi)⟩ :=
  Ob.any fun hy w => by
    obtain ⟨b0, b1, b2⟩ := h hy
    have e1 : (Instr.sliceBounds false s.length s.length vlo vhi none).run P w = .ok (lo.toNat, hi.toNat, s.length) w := by
      have hh : hi.toNat ≤ s.length := by omega
      have h3 : (0 ≤ hi ∧ hi ≤ (s.length : Int)) := by omega
      have h4 : (0 ≤ lo ∧ lo ≤ (hi.toNat : Int)) := by omega
      rcases h1 with rfl | ⟨rfl, rfl⟩ <;> rcases h2 with rfl | ⟨rfl, rfl⟩ <;> simp_all [Instr.sliceBounds, Instr.sliceBound, asIntOf]
    have hsz : (⟨s.toArray⟩ : ByteArray).size = s.length := by simp [ByteArray.size]
    simp only [Instr.sliceAt, Instr.slice, Sem.run_bind, run_underlying ht, Result.andThen_ok, Option.isSome_none, Bool.false_eq_true, if_false, hsz, e1, Sem.run_pure, strV_extract, cut]
    rw [show hi.toNat - lo.toNat = (hi - lo).toNat by omega]

theorem strV_toList : (⟨s.toArray⟩ : ByteArray).toList = s := by
  rw [ByteArray.toList_eq]

theorem ob_seql {x : Bool} (o1 o2 : Operand) : Ob.holds P C x ⟨true, hyps, vS (do eqGuard .eql t o1 o2 (strV s1) (strV s2); binOp .eql t (strV s1) (strV s2)), .bool (s1 == s2)⟩ :=
  Ob.any fun _ w => by
    simp only [eqGuard, binOp, Op.stringOp, Sem.run_bind, strV_toList]
    rfl
theorem ob_sneq {x : Bool} (o1 o2 : Operand) : Ob.holds P C x ⟨true, hyps, vS (do eqGuard .neq t o1 o2 (strV s1) (strV s2); binOp .neq t (strV s1) (strV s2)), .bool (!(s1 == s2))⟩ :=
  Ob.any fun _ w => by
    simp only [eqGuard, binOp, Op.stringOp, Sem.run_bind, strV_toList]
    rfl
/-! ### Bytes and strings appended -/
def bigB : Int := 140737488355328

/-- append, elements of one cell and of at most 16 bytes. -/
theorem run_appG {α : Type} (f : α → Value) (z : α) (big : Nat) {m ys : List α} {A2 : Option Addr} {m2 c2 : Nat} (hS : Sep w0 B w (l ++ own e (.slice A n c) (m.map f) :: r)) (hr : Rd w w.heap.size A2 (ys.map f)) (hm : m2 = ys.length) (ty : TypeId)
    (ht : P.underlying t = some (.slice e)) (hi : P.info? e = some inf) (hz : inf.zero = some (f z)) (hs : inf.size = 1) (hby : big * inf.bytes ≤ 140737488355328) (hbig : big ≤ 140737488355328) (hc : (f z).cells = #[f z]) (h1 : ∀ a, (f a).oneCell' = true) (hl : (n : Int) + m2 ≤ (big : Int)) :
    ∃ A' c' w', (vS (Builtin.append_ #[t, t] ty #[.slice A n c, .slice A2 m2 c2])).run P w = .ok (.value (.slice A' (m ++ ys).length c')) w' ∧ Sep w0 B w' (l ++ own e (.slice A' (m ++ ys).length c') ((m ++ ys).map f) :: r) := by
  have hn := hS.len1
  subst hn
  subst hm
  obtain ⟨fp, ⟨hf, hf2⟩, hfb⟩ := hS.get
  cases A2 with
  | none =>
    have hy : ys = [] := hr.none1
    subst hy
    refine ⟨A, c, w, ?_, ?_⟩
    · have := append_nilsrc ht hi hf ty c2
      simpa using vS_run this
    · simpa using hS
  | some a =>
    have hcells : ∀ j u, (ys.map f)[j]? = some u → w.cell? (a.add j) = some u := fun j u hu => by
      obtain ⟨ad, h, _, hc⟩ := hr j u hu
      injection h with h
      subst h
      exact hc
    have hb : (m.length + ys.length) * inf.bytes ≤ 140737488355328 := by
      have h2 : m.length + ys.length ≤ big := by omega
      exact Nat.le_trans (Nat.mul_le_mul_right _ h2) hby
    rw [List.length_map] at hf
    obtain ⟨v', w', hrun, hown, hg, _, hbl⟩ := run_append_own_at (P := P) w 0 t ty e inf (f z) 1 inf.bytes ht hi hz hs rfl (by rw [hc]; rfl) (by omega) _ m.length _ hf a ys.length c2 (ys.map f) (by simp) hcells (by
      intro u hu
      obtain ⟨a, _, rfl⟩ := List.mem_map.1 hu
      exact h1 a) (by unfold maxLen; omega) hb (Nat.zero_le _)
    have hown' : w'.ownsRow 0 e 1 v' ((m ++ ys).map f).length ((m ++ ys).map f) := by rw [List.length_map, List.length_append, List.map_append]; exact hown
    obtain ⟨A', c', rfl, _⟩ := own_form hown'
    rw [List.length_map] at hrun hown'
    refine ⟨A', c', w', vS_run hrun, hS.upd fun f' hf' hb' => ⟨_, ⟨by rw [List.length_map]; exact hown', rfl⟩, ?_, ?_, own_block (by rw [List.length_map]; exact hown')⟩⟩
    · rw [hf'.2]; exact Ex.of_grown hg
    · intro k hk
      rw [hf'.2]
      rw [List.length_map] at hbl
      rcases hbl with h | h
      · rw [h] at hk; exact .inl hk
      · rw [h] at hk
        simp at hk
        exact .inr (by omega)

theorem strCells_i8 (s : List UInt8) : Lib.strCells ⟨s.toArray⟩ = (i8 s).map (Value.int .u8) := by simp [Lib.strCells, i8]

/-- append of a string's bytes. -/
theorem run_appStr {u : TypeId} (hS : Sep w0 B w (l ++ own e (.slice A n c) (m.map (Value.int .u8)) :: r)) (ty : TypeId) (ht : P.underlying t = some (.slice e)) (hu : P.underlying u = some .string) (hi : P.info? e = some inf)
    (hz : inf.zero = some (.int .u8 0)) (hs : inf.size = 1) (hby : inf.bytes = 1) (hl : (n : Int) + s.length ≤ bigB) :
    ∃ A' c' w', (vS (Builtin.append_ #[t, u] ty #[.slice A n c, strV s])).run P w = .ok (.value (.slice A' (m ++ i8 s).length c')) w' ∧ Sep w0 B w' (l ++ own e (.slice A' (m ++ i8 s).length c') ((m ++ i8 s).map (Value.int .u8)) :: r) := by
  have hn := hS.len1
  subst hn
  obtain ⟨fp, ⟨hf, hf2⟩, hfb⟩ := hS.get
  rw [List.length_map] at hf
  have hsz : (⟨s.toArray⟩ : ByteArray).size = s.length := by simp [ByteArray.size]
  unfold bigB at hl
  obtain ⟨v', w', hrun, hown, hg, _⟩ := Lib.run_append_own_string (P := P) w 0 t u ty e inf ht hu hi hz hs hby _ m.length _ hf ⟨s.toArray⟩ (by rw [hsz]; unfold maxLen; omega) (by rw [hsz]; omega) (Nat.zero_le _)
  rw [hsz, strCells_i8, ← List.map_append] at hown
  have hlen : m.length + s.length = (m ++ i8 s).length := by simp [i8]
  rw [hlen] at hown
  have hbl : v'.ownBlock = (Value.slice A m.length c).ownBlock ∨ ∀ k, v'.ownBlock = some k → w.heap.size ≤ k := by
    cases A with
    | none =>
      right
      have hcn : m = [] := by
        rcases hf.2 with ⟨h1, h2⟩ | ⟨g, cap, cur, h1, _⟩
        · exact List.eq_nil_of_length_eq_zero h2
        · injection h1 with h1; cases h1
      subst hcn
      have hc0 : c = 0 := by
        rcases hf.2 with ⟨h1, h2⟩ | ⟨g, cap, cur, h1, _⟩
        · injection h1
        · injection h1 with h1; cases h1
      subst hc0
      obtain ⟨v2, w2, hrun2, hown2, _, _⟩ := Lib.run_append_own_string (P := P) w w.heap.size t u ty e inf ht hu hi hz hs hby (.slice none 0 0) 0 [] (World.ownsRow_nil w _ e 1) ⟨s.toArray⟩ (by rw [hsz]; unfold maxLen; simp at hl; omega) (by rw [hsz]; simp at hl; omega) (Nat.le_refl _)
      have := hrun.symm.trans hrun2
      injection this with e1 e2
      subst e1
      intro k hk
      rcases hown2.2 with ⟨h1, _⟩ | ⟨g, cap, cur, h1, h2, _⟩
      · rw [h1] at hk; cases hk
      · rw [h1] at hk; simp [Value.ownBlock] at hk; omega
    | some a =>
      rcases hf.2 with ⟨h1, h2⟩ | ⟨g, cap, cur, h1, h2, h3, h4, h5, h6, h7⟩
      · injection h1 with h1; cases h1
      · injection h1 with e1 e2 e3
        injection e1 with e1
        subst e1
        subst e3
        by_cases hroom : m.length + s.length ≤ c
        · left
          have hr := Lib.run_append_room_string (P := P) w t u ty e inf ht hu hi hs g m.length c cur h3 ⟨s.toArray⟩ (by rw [hsz]; exact hroom) (by rw [hsz]; omega)
          have := hrun.symm.trans hr
          injection this with e1 e2
          rw [e1]
          rfl
        · right
          have holds : ∀ j u, (m.map (Value.int .u8))[j]? = some u → w.cell? ((⟨g, 0, none⟩ : Addr).add j) = some u := hf.cells (g := g) rfl
          have hr := Lib.run_append_grow_string (P := P) w t u ty e inf (.int .u8 0) ht hu hi hz ⟨g, 0, none⟩ m.length c (m.map (Value.int .u8)) (by rw [hs]; simp) holds ⟨s.toArray⟩ (by rw [hsz]; omega) (by rw [hsz]; omega) (by rw [hby, hsz]; exact growslice_fits (by omega) (by omega))
          have := hrun.symm.trans hr
          injection this with e1 e2
          rw [e1]
          intro k hk
          simp [Value.ownBlock] at hk
          omega
  have hown' : w'.ownsRow 0 e 1 v' ((m ++ i8 s).map (Value.int .u8)).length ((m ++ i8 s).map (Value.int .u8)) := by rw [List.length_map]; exact hown
  obtain ⟨A', c', rfl, _⟩ := own_form hown'
  rw [List.length_map] at hrun hown'
  refine ⟨A', c', w', vS_run hrun, hS.upd fun f' hf' hb' => ⟨_, ⟨by rw [List.length_map]; exact hown', rfl⟩, ?_, ?_, own_block (by rw [List.length_map]; exact hown')⟩⟩
  · rw [hf'.2]; exact Ex.of_grown hg
  · intro k hk
    rw [hf'.2]
    rw [List.length_map] at hbl
    rcases hbl with h | h
    · rw [h] at hk; exact .inl hk
    · have hk' : (Value.slice A' (m ++ i8 s).length c').ownBlock = some k := by
        simpa using hk
      exact .inr (h k hk')


/-! ### A literal's row that a conversion has marked -/

/-- A row of the call's own, or one that is full and marked behind its end. -/
def ownS (e : TypeId) (A : Option Addr) (n c : Nat) (xs : List Value) : HP where
  at_ w f := (own e (.slice A n c) xs).at_ w f ∨ ∃ g, A = some ⟨g, 0, none⟩ ∧ n = xs.length ∧ c = xs.length ∧ n ≤ 4096 ∧ w.heap[g]? = some (.cells xs.toArray e (n, n + 1)) ∧ f = [g]
  loc := by
    rintro w w' f hk (h | ⟨g, hA, hn, hc, hb, hg, rfl⟩)
    · exact .inl (HP.loc _ hk h)
    · exact .inr ⟨g, hA, hn, hc, hb, (hk g (by simp)).trans hg, rfl⟩

theorem ownS_cells {g : Nat} {xs : List Value} {fz : Nat × Nat} (hg : w.heap[g]? = some (.cells xs.toArray e fz)) : ∀ j u, xs[j]? = some u → w.cell? ((⟨g, 0, none⟩ : Addr).add j) = some u := by
  intro j u hu
  have hadd : (⟨g, 0, none⟩ : Addr).add j = ⟨g, j, none⟩ := by unfold Addr.add; split <;> simp_all
  rw [hadd, cell_of_row w g j _ e fz hg]
  simpa using hu

theorem Sep.lenS {α : Type} {f : α → Value} {m : List α} (h : Sep w0 B w (l ++ ownS e A n c (m.map f) :: r)) : n = m.length := by
  obtain ⟨fp, hf, _⟩ := h.get
  rcases hf with hf | ⟨g, rfl, h1, _⟩
  · have := own_len hf; simpa using this
  · simpa using h1
theorem Sep.reNS {n' : Nat} {xs : List Value} (h : Sep w0 B w (l ++ ownS e A n c xs :: r)) (he : n = n') : Sep w0 B w (l ++ ownS e A n' c xs :: r) := he ▸ h
theorem Sep.asViewS {xs : List Value} (h : Sep w0 B w (l ++ ownS e A n c xs :: r)) : Sep w0 B w (l ++ view (.slice A n c) xs :: r) := by
  refine h.upd fun f hf hfb => ⟨f, ?_, (Ex.refl w).mono (by simp), fun k hk => .inl hk, fun k hk => (hfb k hk).2⟩
  rcases hf with hf | ⟨g, rfl, hn, hc, hb, hg, rfl⟩
  · have hl := own_len hf
    have hc := own_cap hf
    refine ⟨A, c, by rw [hl], hc, fun k hk => (hfb k hk).2, fun i u hu => ?_⟩
    obtain ⟨ad, hA, hlt, hcell⟩ := own_rd hf i u hu
    refine ⟨ad, hA, ?_, hcell⟩
    rw [hf.2, hA]
    simp [Value.ownBlock]
  · exact ⟨_, _, by rw [hn], by omega, fun k hk => (hfb k hk).2, fun i u hu => ⟨_, rfl, by simp, ownS_cells hg i u hu⟩⟩
theorem Sep.ofOwn {xs : List Value} (h : Sep w0 B w (l ++ own e (.slice A n c) xs :: r)) : Sep w0 B w (l ++ ownS e A n c xs :: r) :=
  h.upd fun f hf hfb => ⟨f, .inl hf, (Ex.refl w).mono (by simp), fun k hk => .inl hk, fun k hk => (hfb k hk).2⟩

theorem frz_heap {g k : Nat} {cs : Array Value} (hg : w.heap[g]? = some (.cells cs e (0, 0))) : (w.freeze ⟨g, k, none⟩ 1).heap[g]? = some (.cells cs e (k, k + 1)) := by
  simp [World.freeze, Array.getElem?_modify, hg]
theorem frz_other {g k j : Nat} (h : j ≠ g) : (w.freeze ⟨g, k, none⟩ 1).heap[j]? = w.heap[j]? := by
  simp [World.freeze, Array.getElem?_modify, Ne.symm h]

/-- '[]byte(".."): the literal's row is marked. -/
theorem run_markS {k : Nat} (hS : Sep w0 B w (l ++ own e (.slice A k k) (m.map (Value.int .u8)) :: r)) (ht : P.underlying t = some (.slice e)) (he : P.underlying e = some (.int .u8)) (hk : 0 < k) (hk2 : k ≤ 4096) :
    ∃ w', (vS (convert t t (.slice A k k))).run P w = .ok (.value (.slice A k k)) w' ∧ Sep w0 B w' (l ++ ownS e A k k (m.map (Value.int .u8)) :: r) := by
  obtain ⟨f, hf, hfb⟩ := hS.get
  have hl := own_len hf
  obtain ⟨hf1, hf2⟩ := hf
  rcases hf1.2 with ⟨h1, h2⟩ | ⟨g, cap, cur, hv, _, hg, h3, h4, h5, h6⟩
  · omega
  · injection hv with e1 e2 e3
    subst e1
    subst e3
    have hcur : cur.toList = m.map (Value.int .u8) := by
      rw [← h6, List.take_of_length_le]
      simp only [Array.length_toList]
      omega
    have hcs : cur = (m.map (Value.int .u8)).toArray := by rw [← hcur]
    have hsz : cur.size = k := by omega
    have hsh : w.shape? g = some (e, k) := by simp [World.shape?, hg, hsz]
    refine ⟨w.freeze ⟨g, k, none⟩ 1, vS_run ?_, ?_⟩
    · simp [convert, run_underlying ht, run_underlying he, markStringish, hsh, Result.andThen]
    · refine hS.upd fun f' hf' hfb' => ⟨[g], .inr ⟨g, rfl, hl, hl, hk2, ?_, rfl⟩, ?_, ?_, ?_⟩
      · rw [← hcs]; exact frz_heap hg
      · have hf'' : f' = [g] := by rw [hf'.2]; simp [Value.ownBlock]
        rw [hf'']
        exact ⟨rfl, rfl, rfl, by simp [World.freeze], fun j _ hj => frz_other (by simpa using hj)⟩
      · intro j hj
        rw [hf'.2]
        simp at hj
        subst hj
        exact .inl (by simp [Value.ownBlock])
      · intro j hj
        simp at hj
        subst hj
        have := hfb j (by rw [hf2]; simp [Value.ownBlock])
        simpa [World.freeze] using this.2

/-- append to such a row. -/
theorem run_appS {α : Type} (f : α → Value) (z : α) (big : Nat) {m ys : List α} {A2 : Option Addr} {m2 c2 : Nat} (hS : Sep w0 B w (l ++ ownS e A n c (m.map f) :: r)) (hr : Rd w w.heap.size A2 (ys.map f)) (hm : m2 = ys.length) (ty : TypeId)
    (ht : P.underlying t = some (.slice e)) (hi : P.info? e = some inf) (hz : inf.zero = some (f z)) (hs : inf.size = 1) (hby : big * inf.bytes ≤ 140737488355328) (hbig : big ≤ 140737488355328) (hc : (f z).cells = #[f z]) (h1 : ∀ a, (f a).oneCell' = true) (hl : (n : Int) + m2 ≤ (big : Int)) :
    ∃ A' c' w', (vS (Builtin.append_ #[t, t] ty #[.slice A n c, .slice A2 m2 c2])).run P w = .ok (.value (.slice A' (m ++ ys).length c')) w' ∧ Sep w0 B w' (l ++ ownS e A' (m ++ ys).length c' ((m ++ ys).map f) :: r) := by
  obtain ⟨fp, hf, hfb⟩ := hS.get
  rcases hf with hf | ⟨g, rfl, hn, hcc, hb, hg, hfp⟩
  · have hS' : Sep w0 B w (l ++ own e (.slice A n c) (m.map f) :: r) := by
      obtain ⟨u, hsl, hu⟩ := hS.ex
      obtain ⟨f1, u', hp, hs', hd, hmm⟩ := hsl.take
      rcases hp with hp | ⟨g, hA, h1, h2, h3, h4, h5⟩
      · obtain ⟨u2, hs2, hm2⟩ := SepL.ins hp hs' hd
        exact ⟨hS.base, hS.below, u2, hs2, fun k hk => hu k ((hmm k).2 ((hm2 k).1 hk))⟩
      · obtain ⟨hq, _⟩ := hf
        rcases hq.2 with ⟨hv, _⟩ | ⟨g', cap, cur, hv, _, hg', _⟩
        · injection hv with hv; rw [hA] at hv; cases hv
        · injection hv with hv
          rw [hA] at hv
          injection hv with hv
          injection hv with hv
          subst hv
          rw [h4] at hg'
          simp at hg'
    obtain ⟨A', c', w', h2, h3⟩ := run_appG (P := P) f z big hS' hr hm ty ht hi hz hs hby hbig hc h1 hl
    exact ⟨A', c', w', h2, h3.ofOwn⟩
  · simp only [List.length_map] at hn hcc
    subst hn
    subst hcc
    subst hm
    by_cases hy : ys = []
    · subst hy
      refine ⟨some ⟨g, 0, none⟩, m.length, w, ?_, by simpa using hS⟩
      have h9 : (Builtin.append_ #[t, t] ty #[.slice (some ⟨g, 0, none⟩) m.length m.length, .slice A2 0 c2]).run P w = .ok (.slice (some ⟨g, 0, none⟩) m.length m.length) w := by
        cases A2 <;> simp [Builtin.append_, run_underlying ht, sizeOf, typeInfo, hi, Builtin.lenOf, Builtin.firstCells, storeCells, loadCells, loadCellsFrom]
      simpa using vS_run h9
    · have hpos : 0 < ys.length := List.length_pos_iff.2 hy
      have hsome : A2.isSome = true := hr.some (by simpa using hpos)
      obtain ⟨a, rfl⟩ := Option.isSome_iff_exists.1 hsome
      have hcells : ∀ j u, (ys.map f)[j]? = some u → w.cell? (a.add j) = some u := fun j u hu => by
        obtain ⟨ad, h, _, hc⟩ := hr j u hu
        injection h with h
        subst h
        exact hc
      have hcl : (m.length : Nat) + ys.length ≤ big := by omega
      have hbb : (m.length + ys.length) * inf.bytes ≤ 140737488355328 := Nat.le_trans (Nat.mul_le_mul_right _ hcl) hby
      have hrun := run_append_grow (P := P) w t ty e inf (f z) ht hi hz ⟨g, 0, none⟩ m.length m.length (m.map f) (by rw [hs]; simp) (ownS_cells hg) a ys.length c2 (ys.map f) (by rw [hs]; simp) hcells (by omega) (by omega) (growslice_fits (by omega) hbb)
      have hge := grownCap_ge w (m.length + ys.length) m.length e
      have hcm : grownCap w (m.length + ys.length) m.length e ≤ maxLen := grownCap_le_maxLen w (m.length + ys.length) m.length e (by unfold maxLen; omega)
      have hlen : m.length + ys.length = (m ++ ys).length := by simp
      refine ⟨_, _, _, by rw [← hlen]; exact vS_run hrun, ?_⟩
      refine hS.upd fun f' hf' hfb' => ⟨[w.heap.size], .inl ⟨⟨by simp, .inr ⟨w.heap.size, _, _, by rw [List.length_map], Nat.zero_le _, heap_alloc_new w.drew _, ?_, hcm, ?_, ?_⟩⟩, by simp [Value.ownBlock]⟩, ⟨rfl, rfl, rfl, by simp, fun k hk _ => heap_alloc_old w.drew _ hk⟩, ?_, ?_⟩
      · simp only [List.length_map]; omega
      · have hz1 : (f z).cells.size = 1 := by rw [hc]; rfl
        simp only [Array.size_append, List.size_toArray, size_zeroCells, hz1, List.length_map]
        omega
      · simp only [Array.toList_append, List.append_assoc]
        rw [← List.append_assoc, ← List.map_append, Nat.mul_one]
        exact List.take_left
      · intro k hk; simp at hk; exact .inr (by omega)
      · intro k hk; simp at hk; subst hk; simp

end
end Go.GL

namespace Go.GL
open Go Go.RowKit Go.ChangeShapes Go.WideShapes Go.ChangeAt
section
variable {H : Type} {enc : TypeId × Value → H} {P : Program}

/-- An argument that is a string. -/
theorem open_text {W : World} {b0 : Nat} {t : TypeId} {v : Value} {d : DataW H} {ps : List MemPlace} (ht : P.underlying t = some .string) (hval : Value.okWide P W .any b0 t v) (h : DataW.Trod enc P W 0 (fun _ => true) true t v d ps) :
    ∃ s : List UInt8, v = strV s ∧ s.length ≤ 9223372036854775807 := by
  obtain ⟨s, rfl⟩ := okWide_string ht hval
  obtain ⟨fuel, hf⟩ := h
  obtain ⟨s', hc, hx, hs⟩ := DataW.trod_string ht hf
  simp [Value.cells] at hc
  subst hc
  exact ⟨s.data.toList, by simp [strV], Nat.le_trans (m := s.size) (Nat.le_of_eq rfl) (Nat.le_trans hs (by decide))⟩

/-- An argument that is a slice of strings. -/
theorem open_texts {W : World} {b0 : Nat} {t e : TypeId} {v : Value} {d : DataW H} {ps : List MemPlace} (ht : P.underlying t = some (.slice e)) (he : P.underlying e = some .string) (hc : P.cellsOf e = 1) (hby : P.bytesOf e = 16)
    (hval : Value.okWide P W .any b0 t v) (h : DataW.Trod enc P W 0 (fun _ => true) true t v d ps) (hlt : ∀ x ∈ ps, x.block < W.heap.size)
    (hsz : (d.weights P t).all (· ≤ reachBytes) = true) :
    ∃ (A : Option Addr) (c : Nat) (l : List (List UInt8)), v = .slice A l.length c ∧ Rd W W.heap.size A (l.map strV) ∧ l.length ≤ c ∧ l.length ≤ 8796093022208 ∧ ∀ s ∈ l, s.length ≤ 9223372036854775807 := by
  obtain ⟨a0, len, cap, rfl⟩ := okWide_slice ht hval
  obtain ⟨fuel, hf⟩ := h
  rcases Deep.open_strs ht he hc hf with ⟨hcs, hx⟩ | ⟨a, len', cap', m, Sx, hcs, _, hl, _, hm, hx, hcell⟩
  · simp [Value.cells] at hcs
    obtain ⟨rfl, rfl, rfl⟩ := hcs
    exact ⟨none, 0, [], rfl, Rd.nil _ _ _, Nat.le_refl _, by simp, by simp⟩
  · simp [Value.cells] at hcs
    obtain ⟨rfl, rfl, rfl⟩ := hcs
    simp only [Prod.mk.injEq] at hx
    obtain ⟨rfl, rfl⟩ := hx
    simp only [if_true] at hm
    subst hm
    have hll : ((List.range len).map fun i => (Sx i).data.toList).length = len := by rw [List.length_map, List.length_range]
    refine ⟨some a, m, (List.range len).map fun i => (Sx i).data.toList, by rw [hll], ?_, by omega, ?_, ?_⟩
    · intro i u hu
      simp only [List.map_map, List.getElem?_map, Option.map_eq_some_iff] at hu
      obtain ⟨j, hj, rfl⟩ := hu
      have hil : i < len := by
        have := (List.getElem?_eq_some_iff.1 hj).1
        simpa using this
      rw [List.getElem?_range hil] at hj
      obtain rfl := Option.some.inj hj
      have hmem : MemPlace.cell a.block (a.off + 0) ∈ MemPlace.row a m := MemPlace.mem_row.2 ⟨0, by omega, rfl⟩
      refine ⟨a, rfl, hlt _ hmem, ?_⟩
      rw [(hcell i (by omega)).1]
      simp [strV]
    · rw [hll]
      rw [DataW.weights] at hsz
      simp only [ht, List.all_cons, Bool.and_eq_true, decide_eq_true_eq] at hsz
      have h1 := hsz.1
      rw [hby] at h1
      simp only [List.length_map, List.length_range, reachBytes] at h1
      omega
    · intro s hs
      obtain ⟨i, hi, rfl⟩ := List.mem_map.1 hs
      have := (hcell i (by have := List.mem_range.1 hi; omega)).2
      exact Nat.le_trans (m := (Sx i).size) (Nat.le_of_eq rfl) (Nat.le_trans this (by decide))

/-- An argument that is a slice of bytes. -/
theorem open_u8s {W : World} {b0 : Nat} {t e : TypeId} {v : Value} {d : DataW H} {ps : List MemPlace} (ht : P.underlying t = some (.slice e)) (he : P.underlying e = some (.int .u8)) (hc : P.cellsOf e = 1) (hby : P.bytesOf e = 1)
    (hval : Value.okWide P W .any b0 t v) (h : DataW.Trod enc P W 0 (fun _ => true) true t v d ps) (hlt : ∀ x ∈ ps, x.block < W.heap.size)
    (hsz : (d.weights P t).all (· ≤ reachBytes) = true) :
    ∃ (A : Option Addr) (c : Nat) (l : List Int), v = .slice A l.length c ∧ Rd W W.heap.size A (l.map (Value.int .u8)) ∧ l.length ≤ c ∧ l.length ≤ 140737488351232 ∧ ∀ x ∈ l, 0 ≤ x ∧ x < 256 := by
  obtain ⟨a0, len, cap, rfl⟩ := okWide_slice ht hval
  obtain ⟨fuel, hf⟩ := h
  rcases open_ints ht he hc hf with ⟨hcs, hx⟩ | ⟨a, len', cap', zs, hcs, _, hl, hm, hz, hx, hcell, hwz⟩
  · simp [Value.cells] at hcs
    obtain ⟨rfl, rfl, rfl⟩ := hcs
    exact ⟨none, 0, [], rfl, Rd.nil _ _ _, Nat.le_refl _, by simp, by simp⟩
  · simp [Value.cells] at hcs
    obtain ⟨rfl, rfl, rfl⟩ := hcs
    simp only [Prod.mk.injEq] at hx
    obtain ⟨rfl, rfl⟩ := hx
    simp only [if_true] at hz
    have hlen : (zs.take len).length = len := by rw [List.length_take]; omega
    refine ⟨some a, cap, zs.take len, by rw [hlen], ?_, by omega, ?_, fun x hx => ?_⟩
    · intro i u hu
      simp only [List.getElem?_map, Option.map_eq_some_iff] at hu
      obtain ⟨x, hx, rfl⟩ := hu
      have hil : i < len := by
        have := (List.getElem?_eq_some_iff.1 hx).1
        omega
      have hiz : i < zs.length := by omega
      rw [List.getElem?_take, if_pos hil] at hx
      refine ⟨a, rfl, ?_, ?_⟩
      · have hmem : MemPlace.cell a.block (a.off + 0) ∈ MemPlace.row a zs.length := MemPlace.mem_row.2 ⟨0, by omega, rfl⟩
        exact hlt _ hmem
      · rw [hcell i hiz]
        simp [List.getD_eq_getElem?_getD, hx]
    · rw [hlen]
      rw [DataW.weights] at hsz
      simp only [ht, List.all_cons, Bool.and_eq_true, decide_eq_true_eq] at hsz
      have h1 := hsz.1
      rw [hby] at h1
      simp only [lits, List.length_map, List.length_take, List.length_drop, reachBytes] at h1
      omega
    · have := hwz x (List.mem_of_mem_take hx)
      simp [Lit.wf, IntKind.min, IntKind.max, IntKind.bits, IntKind.signed] at this
      omega
end
end Go.GL
namespace Go.GL
open Go Go.RowKit
section
variable {P : Program} {w0 w : World} {B : Nat} {A : Option Addr} {n c : Nat} {m : List Int}
/-- A string made of bytes that can be read. -/
theorem run_strE {src dst e : TypeId} {B' : Nat} (hs : P.underlying src = some (.slice e)) (he : P.underlying e = some (.int .u8)) (hd : P.underlying dst = some .string) (hr : Rd w B' A (m.map (Value.int .u8))) (hl : n = m.length) :
    (vS (convert src dst (.slice A n c))).run P w = .ok (.value (strV (b8 m))) w := by
  have := run_str (P := P) (c := c) hr hl
  exact vS_run (by simp [convert, run_underlying hs, run_underlying he, run_underlying hd, this, Result.andThen])
end
end Go.GL
