/-
  A small library of our own: maps keyed by a struct of an array of ints and three ints behind it.
-/
import Derived.Test.YtdbdcbejmbpbmaaDoorLibAM
import Derived.Test.YtdbdcbejmbpbmaaDoorLibAR
import Derived.Test.YtdbdcbejmbpbmaaDoorLibH
import Derived.Test.YtdbdcbejmbpbmaaDoorLibJ
namespace Go.GL
open Go Go.RowKit

/-- A list of so many numbers. -/
abbrev Vec (n : Nat) := { l : List Int // l.length = n }
abbrev KV (n : Nat) := Vec n × Int × Int × Int
abbrev fI : Int → Value := Value.int .i64
def kV (n : Nat) (p : KV n) : Value := .agg (List.toArray (arr1 fI 0 n p.1.1 ++ [.int .i64 p.2.1, .int .i64 p.2.2.1, .int .i64 p.2.2.2]))

theorem arrI_length (n : Nat) (m : List Int) : (arr1 fI 0 n m).length = n := by simp [arr1]
theorem arrI_get {n i : Nat} (m : List Int) (h : i < n) : (arr1 fI 0 n m)[i]? = some (fI (m.getD i 0)) := by simp [arr1, h]

theorem eqBs_all : ∀ l : List Bool, eqBs l = l.all id
  | [] => rfl
  | b :: l => by rw [eqBs_cons, eqBs_all l]; rfl

section
variable {P : Program} {n : Nat}

theorem aeq_arr {d : Nat} {w : World} {e : TypeId} (he : ∀ (x y : Int), (Op.equalIn d e (.int .i64 x) (.int .i64 y)).run P w = .ok (x == y) w) (a b : List Int) : ∀ (k i : Nat), i + k = n →
    AEq P d w e (List.toArray (arr1 fI 0 n a)) (List.toArray (arr1 fI 0 n b)) i ((List.range' i k).map fun j => a.getD j 0 == b.getD j 0)
  | 0, _, _ => trivial
  | k + 1, i, h => by
    rw [List.range'_succ, List.map_cons]
    refine ⟨⟨_, _, ?_, ?_, he _ _⟩, aeq_arr he a b k (i + 1) (by omega)⟩
    · rw [List.getElem?_toArray]; exact arrI_get a (by omega)
    · rw [List.getElem?_toArray]; exact arrI_get b (by omega)

theorem eqs_dec (a b : Vec n) : eqBs ((List.range' 0 n).map fun j => a.1.getD j 0 == b.1.getD j 0) = decide (a = b) := by
  rw [eqBs_all, Bool.eq_iff_iff, List.all_eq_true, decide_eq_true_eq]
  constructor
  · intro h
    apply Subtype.ext
    apply List.ext_getElem?
    intro i
    by_cases hi : i < n
    · have := h _ (List.mem_map.2 ⟨i, by simp [hi], rfl⟩)
      simp only [id, beq_iff_eq] at this
      rw [List.getElem?_eq_getElem (by rw [a.2]; exact hi), List.getElem?_eq_getElem (by rw [b.2]; exact hi)]
      rw [List.getD_eq_getElem?_getD, List.getD_eq_getElem?_getD, List.getElem?_eq_getElem (by rw [a.2]; exact hi), List.getElem?_eq_getElem (by rw [b.2]; exact hi)] at this
      exact congrArg some this
    · rw [List.getElem?_eq_none (by rw [a.2]; omega), List.getElem?_eq_none (by rw [b.2]; omega)]
  · rintro rfl x hx
    obtain ⟨j, _, rfl⟩ := List.mem_map.1 hx
    simp

theorem kV_ext (a : List Int) (r : List Value) : (List.toArray (arr1 fI 0 n a ++ r)).extract 0 (0 + n) = List.toArray (arr1 fI 0 n a) := by
  apply Array.ext'
  rw [Array.toList_extract]
  have := arrI_length n a
  simp [List.extract, List.take_append, this]
theorem kV_one (a : List Int) (r : List Value) (j : Nat) : (List.toArray (arr1 fI 0 n a ++ r))[n + j]? = r[j]? := by
  have := arrI_length n a
  rw [List.getElem?_toArray, List.getElem?_append_right (by omega), this, Nat.add_sub_cancel_left]

/-- Keys of an array of ints and three ints. -/
theorem MKey.kv {kt ta ti : TypeId} {fs : Array Field} {f0 f1 f2 f3 : Field} (hk : P.underlying kt = some (.struct fs)) (hh : P.stoodInHeld kt = false) (ha : P.underlying ta = some (.array n ti)) (hi : P.underlying ti = some (.int .i64))
    (hfs : fs.toList = [f0, f1, f2, f3]) (h0 : f0.name ≠ "_" ∧ f0.type = ta ∧ f0.offset = 0) (h1 : f1.name ≠ "_" ∧ f1.type = ti ∧ f1.offset = n) (h2 : f2.name ≠ "_" ∧ f2.type = ti ∧ f2.offset = n + 1) (h3 : f3.name ≠ "_" ∧ f3.type = ti ∧ f3.offset = n + 2)
    (aga : runPure P (isAgg ta) = some true) (sza : runPure P (sizeOf ta) = some n) (agi : runPure P (isAgg ti) = some false) (szi : runPure P (sizeOf ti) = some 1) : MKey P kt (kV n) := by
  have part0 : ∀ (p : KV n) (w : World), (part f0.type (List.toArray (arr1 fI 0 n p.1.1 ++ [.int .i64 p.2.1, .int .i64 p.2.2.1, .int .i64 p.2.2.2])) f0.offset).run P w = .ok (.agg (List.toArray (arr1 fI 0 n p.1.1))) w := fun p w => by
    rw [h0.2.1, h0.2.2]
    exact part_agg aga sza (kV_ext _ _) w
  have part1 : ∀ (f : Field) (j : Nat) (p : KV n) (v : Value) (w : World), f.type = ti → f.offset = n + j → ([Value.int .i64 p.2.1, .int .i64 p.2.2.1, .int .i64 p.2.2.2] : List Value)[j]? = some v → (part f.type (List.toArray (arr1 fI 0 n p.1.1 ++ [.int .i64 p.2.1, .int .i64 p.2.2.1, .int .i64 p.2.2.2])) f.offset).run P w = .ok v w := fun f j p v w ht ho hv => by
    rw [ht, ho]
    exact part_one agi (by rw [kV_one]; exact hv) w
  refine MKey.of (fun a b w => ?_) (fun em a w => ?_) ⟨_, hk, fun a b e es i h => ?_⟩ (fun a w => ?_)
  · have he : ∀ (x y : Int), (Op.equalIn 9998 ti (.int .i64 x) (.int .i64 y)).run P w = .ok (x == y) w := fun x y => eqv_int1 hi
    have he' : ∀ (x y : Int), (Op.equalIn 9999 ti (.int .i64 x) (.int .i64 y)).run P w = .ok (x == y) w := fun x y => eqv_int hi
    have harr := eq_array_d (d := 9998) (w := w) ((List.range' 0 n).map fun j => a.1.1.getD j 0 == b.1.1.getD j 0) ha szi agi (by simp) (aeq_arr (n := n) he a.1.1 b.1.1 n 0 (by omega))
    unfold kV
    have key := eq_struct2 (P := P) (t := kt) (w := w) (fs := fs) (xs := List.toArray (arr1 fI 0 n a.1.1 ++ [.int .i64 a.2.1, .int .i64 a.2.2.1, .int .i64 a.2.2.2])) (ys := List.toArray (arr1 fI 0 n b.1.1 ++ [.int .i64 b.2.1, .int .i64 b.2.2.1, .int .i64 b.2.2.2]))
      [eqBs ((List.range' 0 n).map fun j => a.1.1.getD j 0 == b.1.1.getD j 0), a.2.1 == b.2.1, a.2.2.1 == b.2.2.1, a.2.2.2 == b.2.2.2] hk hh (by
        rw [hfs]
        exact ⟨⟨h0.1, _, _, part0 a w, part0 b w, by rw [h0.2.1]; exact harr⟩,
          ⟨h1.1, _, _, part1 f1 0 a _ w h1.2.1 h1.2.2 rfl, part1 f1 0 b _ w h1.2.1 h1.2.2 rfl, by rw [h1.2.1]; exact he' _ _⟩,
          ⟨h2.1, _, _, part1 f2 1 a _ w h2.2.1 h2.2.2 rfl, part1 f2 1 b _ w h2.2.1 h2.2.2 rfl, by rw [h2.2.1]; exact he' _ _⟩,
          ⟨h3.1, _, _, part1 f3 2 a _ w h3.2.1 h3.2.2 rfl, part1 f3 2 b _ w h3.2.1 h3.2.2 rfl, by rw [h3.2.1]; exact he' _ _⟩, trivial⟩)
    rw [key, eqs_dec]
    congr 1
    rw [Bool.eq_iff_iff]
    simp [eqBs, Prod.ext_iff]
  · unfold kV
    refine chk_struct hk (fun f hf => ?_) w
    rw [hfs] at hf
    simp only [List.mem_cons, List.not_mem_nil, or_false] at hf
    rcases hf with rfl | rfl | rfl | rfl
    · refine ⟨_, part0 a, fun w => ?_⟩
      rw [h0.2.1]
      refine chk_array9 ha szi agi (fun i hi' => ⟨_, by rw [List.getElem?_toArray]; exact arrI_get _ hi', fun w => chk_cell hi em 9997 _ w⟩) w
    · exact ⟨_, fun w => part1 _ 0 a _ w h1.2.1 h1.2.2 rfl, fun w => by rw [h1.2.1]; exact chk_cell hi em 9998 _ w⟩
    · exact ⟨_, fun w => part1 _ 1 a _ w h2.2.1 h2.2.2 rfl, fun w => by rw [h2.2.1]; exact chk_cell hi em 9998 _ w⟩
    · exact ⟨_, fun w => part1 _ 2 a _ w h3.2.1 h3.2.2 rfl, fun w => by rw [h3.2.1]; exact chk_cell hi em 9998 _ w⟩
  · unfold Instr.findNow
    rw [h]
    rfl
  · unfold kV
    refine sameBits_agg (fun v hv n => ?_) w
    simp only [List.mem_append, List.mem_cons, List.not_mem_nil, or_false] at hv
    rcases hv with hv | rfl | rfl | rfl
    · unfold arr1 at hv
      obtain ⟨i, _, rfl⟩ := List.mem_map.1 hv
      exact sameBits_int _ _ n
    all_goals exact sameBits_int _ _ n
where
  chk_array9 {kt e : TypeId} {n : Nat} {xs : Array Value} {em : Bool} (ht : P.underlying kt = some (.array n e)) (hs : runPure P (sizeOf e) = some 1) (hag : runPure P (isAgg e) = some false)
    (h : ∀ i, i < n → ∃ v, xs[i]? = some v ∧ ∀ w, (Instr.checkKey em 9998 e v).run P w = .ok () w) (w : World) : (Instr.checkKey em 9999 kt (.agg xs)).run P w = .ok () w := by
    show (Instr.checkKey em (9998 + 1) kt (.agg xs)).run P w = _
    unfold Instr.checkKey
    simp only [Sem.run_bind, run_underlying ht, Result.andThen_ok, Std.Legacy.Range.forIn_eq_forIn_range', Std.Legacy.Range.size, Nat.sub_zero, Nat.add_one_sub_one, Nat.div_one]
    have key : ∀ (l : List Nat), (∀ i ∈ l, i < n) → (forIn l PUnit.unit (fun i _ => do
        Instr.checkKey em 9998 e (← part e xs (i * (← sizeOf e)))
        pure (ForInStep.yield PUnit.unit))).run P w = .ok PUnit.unit w := by
      intro l
      induction l with
      | nil => intro _; simp
      | cons i l ih =>
        intro hl
        obtain ⟨v, p1, p2⟩ := h i (hl i (by simp))
        simp only [List.forIn_cons, Sem.run_bind, runPure_run _ hs, Result.andThen_ok, Nat.mul_one, part_one hag p1, p2, Sem.run_pure]
        exact ih (fun j hj => hl j (by simp [hj]))
    rw [key (List.range' 0 n) (fun i hi => by simp at hi; omega)]
    rfl
end

/-! The rules of maps, the key's value spelled otherwise. -/
section
variable {K V : Type} [DecidableEq K] {P : Program} {C : World → Prop} {kt et t : TypeId} {kf : K → Value} {vf : V → Value} {w0 w : World} {B b : Nat} {l r : List HP} {m : List (K × V)} {k : K} {kv : Value}
end
end Go.GL
