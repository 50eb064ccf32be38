/-
  slices.Sorted(slices.Values(l)) at this program: the iterator, what collects, what sorts (turned from the kit's worked proofs of a range over slices.Values).
-/
import Derived.RangeFuncBox
import Derived.RangeFuncLeaves
import Derived.Shelf.Abstract
import Derived.WalkKit
import Derived.OwnWalkIn
import Derived.TacticsInMore
import Derived.LoopNIn
import Derived.LoopIn
import Derived.Maps.AppendAt
import Derived.Test.YtdbdcbejmbpbmaaDoorSX
import Derived.Test.YtdbdcbejmbpbmaaDoorLibZs
namespace Go.Proofs.YtdbdcbejmbpbmaaDoor
open Go Go.GL Go.RowKit Go.Shelf Go.Proofs

attribute [local go_sem] Oper.semAt_some

def upto {α : Type} (f : Nat → α) (k : Nat) : List α := (List.range k).map f
theorem upto_succ {α : Type} (f : Nat → α) (k : Nat) : upto f (k + 1) = upto f k ++ [f k] := by simp [upto, List.range_succ]
theorem upto_length {α : Type} (f : Nat → α) (k : Nat) : (upto f k).length = k := by simp [upto]
theorem upto_all (zs : List (List UInt8)) : upto (fun j => zs[j]?.getD []) zs.length = zs := by
  apply List.ext_getElem
  · simp [upto]
  · intro i h1 h2
    simp [upto, h2]
theorem upto_take (zs : List (List UInt8)) {k : Nat} (hk : k ≤ zs.length) : upto (fun j => zs[j]?.getD []) k = zs.take k := by
  apply List.ext_getElem
  · simp [upto, hk]
  · intro i h1 h2
    have : i < zs.length := by simp [upto] at h1; omega
    simp [upto, this]

set_option maxRecDepth 100000 in
set_option maxHeartbeats 2000000 in
theorem values1_in (F : Fence) (n : Nat) (h7 : F.fn 144) (hro : F.round = none) (hn : 1 ≤ n) (l Bs n₀ len cap : Nat) (ad : Addr) (zs : List (List UInt8)) (hreach : len * 16 ≤ 140737488351232) (hb : ad.block < n₀) (J Jx : List (List UInt8) → World → Prop)
    (hY : ∀ pre x W, J pre W → pre.length < len → YieldAt F (n - 1) Tryd.prog l #[strV x] W fun e W' =>
      (e = .returned (.bool true) ∧ J (pre ++ [x]) W' ∧ Below n₀ W W') ∨ (e = .returned (.bool false) ∧ Jx (pre ++ [x]) W'))
    (W : World) (hBs : W.cell? ⟨Bs, 0, none⟩ = some (.slice (some ad) len cap)) (hc : ∀ j, j < len → W.cell? (ad.add j) = some (strV (zs[j]?.getD []))) (h0 : J [] W) :
    CallsIn F n Tryd.prog 144 #[.func (.yield l) #[] #[], .pointer (some ⟨Bs, 0, none⟩)] W fun e W' => (∃ v, e = .returned v) ∧
      ((∃ ys, ys = upto (fun j => zs[j]?.getD []) len ∧ J ys W') ∨ (∃ pre, (∃ k, k ≤ len ∧ pre = upto (fun j => zs[j]?.getD []) k) ∧ Jx pre W')) := by
  refine callsIn_of_wp Tryd.func144 rfl h7 ?_ hro
  simp only [Tryd.ntmps144, List.size_toArray, List.length_cons, List.length_nil, Nat.reduceAdd, Nat.reduceSub, Array.replicate_succ, Array.replicate_zero, List.push_toArray, List.append_toArray, List.nil_append, List.cons_append]
  gi_wp2
  gi_loopw [7] (fun i wr => ∃ k : Nat, k ≤ len ∧ i = .int .i64 k ∧ J (upto (fun j => zs[j]?.getD []) k) wr ∧ Below n₀ W wr)
    (fun i _ => len - (intOf i).toNat)
  case atStart => exact ⟨0, Nat.zero_le _, rfl, h0, Below.refl _ _⟩
  case round =>
    obtain ⟨k, hk, rfl, hJs, hnx⟩ := hrel
    have hcx : k < len → wr.cell? (ad.add k) = some (strV (zs[k]?.getD [])) := fun h => (hnx.cell (p := ad.add k) (by rw [block_add]; exact hb)).trans (hc k h)
    by_cases hlt : k < len
    · obtain ⟨fn, tmps, assign, body, hy, hR⟩ := hY _ (zs[k]?.getD []) wr hJs (by rw [upto_length]; exact hlt)
      have hcx' := hcx hlt
      gi_wp2
      refine hR.mono ?_
      rintro e W3 (⟨rfl, hJ3, hk3⟩ | ⟨rfl, hJx3⟩)
      · gi_wp2
        go_roundw
        case rel => exact ⟨k + 1, by omega, by simp, by rw [upto_succ]; exact hJ3, hnx.trans hk3⟩
        case measure => simp [intOf]; omega
      · gi_wp2
        refine bodyPost_ret (results_none rfl _ _ _) rfl ?_
        exact ⟨⟨_, rfl⟩, .inr ⟨_, ⟨k + 1, by omega, (upto_succ _ _).symm⟩, hJx3⟩⟩
    · obtain rfl : k = len := by omega
      gi_wp2
      go_end0
      exact ⟨⟨_, rfl⟩, .inl ⟨_, rfl, hJs⟩⟩

set_option maxRecDepth 100000 in
set_option maxHeartbeats 1000000 in
/-- .. of no element. -/
theorem values1_nil_in (F : Fence) (n : Nat) (h7 : F.fn 144) (hro : F.round = none) (l Bs : Nat) (a : Option Addr) (cap : Nat) (J : List (List UInt8) → World → Prop) (W : World) (hBs : W.cell? ⟨Bs, 0, none⟩ = some (.slice a 0 cap)) (h0 : J [] W) :
    CallsIn F n Tryd.prog 144 #[.func (.yield l) #[] #[], .pointer (some ⟨Bs, 0, none⟩)] W fun e W' => (∃ v, e = .returned v) ∧ J [] W' := by
  refine callsIn_of_wp Tryd.func144 rfl h7 ?_ hro
  simp only [Tryd.ntmps144, List.size_toArray, List.length_cons, List.length_nil, Nat.reduceAdd, Nat.reduceSub, Array.replicate_succ, Array.replicate_zero, List.push_toArray, List.append_toArray, List.nil_append, List.cons_append]
  gi_wp2
  gi_loopw [7] (fun i wr => i = .int .i64 0 ∧ J [] wr) (fun _ _ => 0)
  case atStart => exact ⟨rfl, h0⟩
  case round =>
    obtain ⟨rfl, hJs⟩ := hrel
    gi_wp2
    go_end0
    exact ⟨⟨_, rfl⟩, hJs⟩

/-- The slice holds the numbers, below a block. -/
def Holds0 (n₀ : Nat) (W : World) (a : Option Addr) (zs : List (List UInt8)) : Prop := zs = [] ∨ ∃ ad, a = some ad ∧ ad.block < n₀ ∧ ∀ j, j < zs.length → W.cell? (ad.add j) = some (strV (zs[j]?.getD []))
theorem Holds0.below {n₀ : Nat} {A B : World} (h : Below n₀ A B) {a : Option Addr} {zs : List (List UInt8)} : Holds0 n₀ A a zs → Holds0 n₀ B a zs
  | .inl e => .inl e
  | .inr ⟨ad, e, hb, hc⟩ => .inr ⟨ad, e, hb, fun j hj => (h.cell (p := ad.add j) (by rw [block_add]; exact hb)).trans (hc j hj)⟩

theorem values_stops (F : Fence) (n : Nat) (h7 : F.fn 144) (hro : F.round = none) (hn : 1 ≤ n) (Bs n₀ cap : Nat) (a : Option Addr) (zs : List (List UInt8)) (hreach : zs.length * 16 ≤ 140737488351232) (w : World) (hBs : Bs < w.heap.size) (hn₀ : n₀ ≤ w.heap.size)
    (hc : w.cell? ⟨Bs, 0, none⟩ = some (.slice a zs.length cap)) (hI : Holds0 n₀ w a zs) :
    SeqStopsK F n Tryd.prog 144 #[.pointer (some ⟨Bs, 0, none⟩)] (fun x : List UInt8 => #[strV x]) (Below n₀) (fun ys => ys = zs) (fun pre => pre <+: zs) zs.length w := fun l J Jx W hW _ _ hY h0 => by
  have hc' := (hW.cell (p := ⟨Bs, 0, none⟩) hBs).trans hc
  rcases hI.below (hW.mono hn₀) with rfl | ⟨ad, rfl, hb, hcs⟩
  · exact (values1_nil_in F n h7 hro l Bs a cap J W hc' h0).mono fun e W' ⟨he, hj⟩ => ⟨he, .inl ⟨_, rfl, hj⟩⟩
  · refine (values1_in F n h7 hro hn l Bs n₀ zs.length cap ad zs hreach hb J Jx hY W hc' hcs h0).mono ?_
    rintro e W' ⟨he, ⟨ys, rfl, hj⟩ | ⟨pre, ⟨k, hk, rfl⟩, hj⟩⟩
    · exact ⟨he, .inl ⟨_, upto_all zs, hj⟩⟩
    · exact ⟨he, .inr ⟨_, by rw [upto_take zs hk]; exact List.take_prefix _ _, hj⟩⟩

set_option maxRecDepth 100000 in
set_option maxHeartbeats 2000000 in
/-- slices.AppendSeq(nil, slices.Values(l)). -/
theorem appendSeq_in (F : Fence) (n : Nat) (hA : F.fn 175) (h7 : F.fn 144) (hro : F.round = none) (hn : 3 ≤ n) (Bs cap : Nat) (a : Option Addr) (zs : List (List UInt8)) (hreach : zs.length * 16 ≤ 140737488351232) (w : World) (hBs : Bs < w.heap.size)
    (hcs : w.cell? ⟨Bs, 0, none⟩ = some (.slice a zs.length cap)) (hI : Holds0 w.heap.size w a zs) :
    CallsIn F n Tryd.prog 175 #[.slice none 0 0, .func (.func 144) #[] #[.pointer (some ⟨Bs, 0, none⟩)]] w fun e W' => ∃ v, e = .returned v ∧ W'.ownsRow w.heap.size 9 1 v zs.length (zs.map (strV)) ∧ (v = .slice none 0 0 ↔ zs = []) ∧ Below w.heap.size w W' := by
  have h1 : 1 ≤ n := by omega
  obtain ⟨i0, hi, hz0, hz1, hz2⟩ := info_parts Info9
  refine callsIn_of_wp_marks Tryd.func175 rfl hA ?_ hro
  simp only [Tryd.ntmps175, List.size_toArray, List.length_cons, List.length_nil, Nat.reduceAdd, Nat.reduceSub, Array.replicate_succ, Array.replicate_zero, List.push_toArray, List.append_toArray, List.nil_append, List.cons_append]
  gi_wp2
  have bO := Boxed.new w 40 (.slice none 0 0)
  have hB0 : Below w.heap.size w (w.alloc (.cells #[.slice none 0 0] 40)) := (Below.refl _ w).alloc (Nat.le_refl _) _
  refine wpIn_rangeFunc_ownG hro h1 (gf := 144) (lb := #[.pointer (some ⟨Bs, 0, none⟩)]) rfl h7 (enters_of Tryd.func144 (by kernel_rfl) rfl)
    (values_stops F (n - 1) h7 hro (by omega) Bs w.heap.size cap a zs hreach _ (by simp; omega) (by simp) ((hB0.cell (p := ⟨Bs, 0, none⟩) hBs).trans hcs) (hI.below hB0)) belowK_t (belowK_b (by simp)) (Below.refl _ _) (fun _ => rfl)
    (fun pre W => (∃ v, Boxed W w.heap.size 40 v ∧ W.ownsRow w.heap.size 9 1 v pre.length (pre.map (strV)) ∧ (v = .slice none 0 0 ↔ pre = [])) ∧ Below w.heap.size w W)
    (fun _ _ _ => False)
    (OwnFrom.and (Own.from (holdsRow_own w.heap.size w.heap.size 40 9 1 (fun pre : List (List UInt8) => pre.length) (fun pre => pre.map (strV)) (fun pre v => v = .slice none 0 0 ↔ pre = [])) _) (ownFrom_below (Nat.le_refl _) (by simp)))
    (fun _ _ _ _ _ hs _ _ => hs)
    ⟨⟨_, bO, World.ownsRow_nil _ _ _ _, by simp⟩, hB0⟩
    (fun x => { tmps := #[.slice none 0 0, .func (.func 144) #[] #[.pointer (some ⟨Bs, 0, none⟩)], .pointer (some ⟨w.heap.size, 0, none⟩), undef, .slice none 0 0, strV x, .func (.func 144) #[] #[.pointer (some ⟨Bs, 0, none⟩)], strV x, undef, undef, undef, undef, undef], defers := [] }) ?assign ?body ?done ?stop
  case assign =>
    intro l x W K hK
    gi_wp2
    exact hK
  case body =>
    rintro l pre x W ⟨⟨v, hv, hrow, hnil⟩, hB⟩ hlt
    have hc := hv.cell
    have hpl : pre.length < zs.length := hlt
    have hml : (140737488355328 : Nat) ≤ maxLen := by unfold maxLen; omega
    gi_wp2_with (gi_at_builtin; refine wpListIn_append_own _ rfl _ _ 40 rfl w.heap.size 9 i0 (.string ⟨#[]⟩) 1 16 Und40 hi hz0 hz1 hz2 rfl (by decide) _ _ _ rfl (hrow.alloc _) ⟨W.heap.size, 0, none⟩ 1 1 [strV x] rfl rfl (cell_one_new _ _ _) (by simp [Value.oneCell']) (by omega) (by omega) (by have := hB.size; simp; omega) ?_; intro v' w1 hown' hgrow _; obtain ⟨g', cap', rfl⟩ := ownsRow_succ hown'; obtain ⟨hv1, hv2, hr2, hk2, hb2⟩ := hv.appended (by decide) hrow hB.size (Nat.le_refl _) hown' hgrow; have hc1 := hv1.cell; have hf1 := hv1.frozen)
    exact ⟨hk2.from _, hb2, ⟨_, hv2, by simpa using hr2, by simp⟩, hB.trans hb2⟩
  case done =>
    rintro D ys W hD rfl ⟨⟨v, hv, hrow, hnil⟩, hB⟩ hK
    have hc := hv.cell
    gi_wp2
    refine ⟨by simp, .inl ⟨_, _, rfl, run_takeDeferred hK, ?_⟩⟩
    exact ⟨_, results_tmp rfl _ _ _, v, rfl, ownsRow_putObj hrow _ hK rfl, hnil, hB.trans (belowK_b (w := w) (Nat.le_refl _) W D _ _ (by simp at hD; omega) hK rfl rfl)⟩
  case stop =>
    rintro D c pre W _ _ h _
    exact h.elim

set_option maxRecDepth 100000 in
set_option maxHeartbeats 2000000 in
/-- slices.Collect(slices.Values(l)). -/
theorem collect_in (F : Fence) (n : Nat) (hC : F.fn 142) (hA : F.fn 175) (h7 : F.fn 144) (hro : F.round = none) (hn : 4 ≤ n) (Bs cap : Nat) (a : Option Addr) (zs : List (List UInt8)) (hreach : zs.length * 16 ≤ 140737488351232) (w : World) (hBs : Bs < w.heap.size)
    (hcs : w.cell? ⟨Bs, 0, none⟩ = some (.slice a zs.length cap)) (hI : Holds0 w.heap.size w a zs) :
    CallsIn F n Tryd.prog 142 #[.func (.func 144) #[] #[.pointer (some ⟨Bs, 0, none⟩)]] w fun e W' => ∃ v, e = .returned v ∧ W'.ownsRow w.heap.size 9 1 v zs.length (zs.map (strV)) ∧ (v = .slice none 0 0 ↔ zs = []) ∧ Below w.heap.size w W' := by
  have h1 : 1 ≤ n := by omega
  refine callsIn_of_wp Tryd.func142 rfl hC ?_ hro
  simp only [Tryd.ntmps142, List.size_toArray, List.length_cons, List.length_nil, Nat.reduceAdd, Nat.reduceSub, Array.replicate_succ, Array.replicate_zero, List.push_toArray, List.append_toArray, List.nil_append, List.cons_append]
  gi_wp2_with (gi_at_call 175; refine (appendSeq_in F (n - 1) hA h7 hro (by omega) Bs cap a zs hreach _ hBs hcs hI).mono ?_; rintro e W ⟨v, rfl, hrow, hnil, hb⟩)
  go_ret
  exact ⟨v, rfl, hrow, hnil, hb⟩

set_option maxRecDepth 100000 in
set_option maxHeartbeats 2000000 in
/-- slices.Sorted(slices.Values(l)). -/
theorem sorted_in (F : Fence) (n : Nat) (hSo : F.fn 105) (hC : F.fn 142) (hA : F.fn 175) (h7 : F.fn 144) (hSt : F.fn 143) (hro : F.round = none)
    (srt : ∀ (blk cap : Nat) (ss : List (List UInt8)) (W : World), Go.Sort.Holds encStr W blk 0 ss.toArray → blk < W.heap.size → ss.length < 4611686018427387904 → CallsIn F (n - 1) Tryd.prog 143 #[.slice (some ⟨blk, 0, none⟩) ss.length cap] W fun e w' => e = .returned (.tuple #[]) ∧ ∃ k os, w' = Go.Sort.grow (Go.Sort.putRow (strV) (Go.Sort.ahead W k) blk 0 (sortT ss).toArray) os)
    (srt0 : ∀ (p : Option Addr) (cap : Nat) (W : World), CallsIn F (n - 1) Tryd.prog 143 #[.slice p 0 cap] W fun e w' => e = .returned (.tuple #[]) ∧ w' = W)
    (hn : 5 ≤ n) (Bs cap : Nat) (a : Option Addr) (zs : List (List UInt8)) (hreach : zs.length * 16 ≤ 140737488351232) (w : World) (hBs : Bs < w.heap.size)
    (hcs : w.cell? ⟨Bs, 0, none⟩ = some (.slice a zs.length cap)) (hI : Holds0 w.heap.size w a zs) :
    CallsIn F n Tryd.prog 105 #[.func (.func 144) #[] #[.pointer (some ⟨Bs, 0, none⟩)]] w fun e W' => ∃ v, e = .returned v ∧ W'.ownsRow w.heap.size 9 1 v zs.length (vT (sortT zs)) ∧ Below w.heap.size w W' := by
  have h1 : 1 ≤ n := by omega
  refine callsIn_of_wp Tryd.func105 rfl hSo ?_ hro
  simp only [Tryd.ntmps105, List.size_toArray, List.length_cons, List.length_nil, Nat.reduceAdd, Nat.reduceSub, Array.replicate_succ, Array.replicate_zero, List.push_toArray, List.append_toArray, List.nil_append, List.cons_append]
  have sl := sortT_length zs
  gi_wp2_with (gi_at_call 142; refine (collect_in F (n - 1) hC hA h7 hro (by omega) Bs cap a zs hreach _ hBs hcs hI).mono ?_; rintro e W ⟨v, rfl, hrow, hnil, hb⟩)
  rcases hrow.2 with ⟨rfl, hz⟩ | ⟨gb, cap', cur, rfl, hbase, hgb, r1, r2, r3, r4⟩
  · have hss : zs = [] := List.eq_nil_of_length_eq_zero hz
    subst hss
    gi_wp2_with (gi_at_call 143; refine (srt0 none 0 W).mono ?_; rintro e w' ⟨rfl, rfl⟩)
    go_ret
    exact ⟨.slice none 0 0, rfl, by rw [List.eq_nil_of_length_eq_zero sl]; exact hrow, hb⟩
  · rw [Nat.mul_one] at r4
    have hgl : gb < W.heap.size := (Array.getElem?_eq_some_iff.1 hgb).1
    have cS := srt gb cap' zs W (holds_of_block hgb r4) hgl (by unfold maxLen at r2; omega)
    gi_wp2_with (gi_at_call 143; refine cS.mono ?_; rintro e w' ⟨rfl, nn, os, rfl⟩)
    go_ret
    exact ⟨_, rfl, ownsRow_sorted (ss := zs) (ts := sortT zs) sl hbase hgb r1 r2 r3, hb.grown (grownBy_sorted _) hb.size (fun j hj => by cases hj; exact hbase)⟩

theorem Holds0.of_rd {w : World} {B : Nat} {A : Option Addr} {l : List (List UInt8)} (h : Rd w B A (vT l)) : Holds0 B w A l := by
  cases l with
  | nil => exact .inl rfl
  | cons x l =>
    obtain ⟨ad, e, hb, _⟩ := h 0 (strV x) rfl
    refine .inr ⟨ad, e, hb, fun j hj => ?_⟩
    have hj' : ((x :: l) : List (List UInt8))[j]? = some ((x :: l)[j]) := List.getElem?_eq_getElem hj
    obtain ⟨ad', e', _, hc⟩ := h j (strV ((x :: l)[j])) (by rw [List.getElem?_map, hj']; rfl)
    rw [e] at e'
    cases e'
    rw [hc, hj']; rfl

theorem sortedT_own {A : Option Addr} {n c g : Nat} {m : List (List UInt8)} {w0 w : World} {B : Nat} {fs : List HP} (hS : Sep w0 B w (blk g 40 #[.slice A n c] :: fs)) (hr : RdF w0 B fs A (vT m)) (hn : n = m.length) (hmx : (m.length : Int) ≤ 4194304) :
    Calls Tryd.prog 105 #[.func (.func 144) #[] #[.pointer (some ⟨g, 0, none⟩)]] w fun e w' => ∃ v, e = .returned v ∧ ∃ (A' : Option Addr) (c' : Nat), v = .slice A' (sortT m).length c' ∧ Sep w0 B w' (blk g 40 #[.slice A n c] :: own 9 (.slice A' (sortT m).length c') (vT (sortT m)) :: fs) := by
  subst hn
  obtain ⟨f, ⟨hb, hf⟩, hk⟩ := Sep.get (l := []) hS
  have hg : g < w.heap.size := (hk g (by rw [hf]; simp)).2
  have hcs : w.cell? ⟨g, 0, none⟩ = some (.slice A m.length c) := by simp [World.cell?, hb]
  have hI : Holds0 w.heap.size w A m := Holds0.of_rd (hr w (hS.dropN 1))
  refine ((callsIn_wide (n := 5)).1 (sorted_in Fence.wide 5 trivial trivial trivial trivial trivial rfl (fun blk cap ss W h1 h2 h3 => (callsIn_wide (n := 4)).2 (Any.slices_Sort_string SortTL blk 0 cap ss W h1 h2 h3)) (fun p cap W => (callsIn_wide (n := 4)).2 (Any.slices_Sort_string_none SortTL p cap W)) (Nat.le_refl _) g c A m (by omega) w hg hcs hI)).mono ?_
  rintro e w' ⟨v, rfl, hrow, hbl⟩
  have sl := sortT_length m
  have hx : Ex [] w w' := ⟨hbl.os, hbl.tape, hbl.output, hbl.size, fun k hk _ => hbl.block k hk⟩
  have fin : ∀ (A' : Option Addr) (c' : Nat), v = .slice A' m.length c' → (∀ k ∈ v.ownBlock.toList, w.heap.size ≤ k ∧ k < w'.heap.size) → w'.ownsRow 0 9 1 v m.length (vT (sortT m)) → ∃ v', Ending.returned v = .returned v' ∧ ∃ (A' : Option Addr) (c' : Nat), v' = .slice A' (sortT m).length c' ∧ Sep w0 B w' (blk g 40 #[.slice A m.length c] :: own 9 (.slice A' (sortT m).length c') (vT (sortT m)) :: fs) := by
    intro A' c' hv hkk hrow'
    subst hv
    refine ⟨_, rfl, A', c', by rw [sl], ?_⟩
    have h2 := Sep.add (p := own 9 (.slice A' m.length c') (vT (sortT m))) (f := (Value.slice A' m.length c').ownBlock.toList) hS hx ⟨by rw [List.length_map, sl]; exact hrow', rfl⟩ hkk
    have h3 := h2.pickN 2 [1, 0] (by decide)
    rw [sl]
    exact h3
  rcases hrow.2 with ⟨rfl, hz⟩ | ⟨gb, cap', cur, rfl, hbase, hgb, r1, r2, r3, r4⟩
  · exact fin none 0 (by rw [hz]) (by simp [Value.ownBlock]) ⟨hrow.1, .inl ⟨rfl, hz⟩⟩
  · refine fin (some ⟨gb, 0, none⟩) cap' rfl ?_ ⟨hrow.1, .inr ⟨gb, cap', cur, rfl, Nat.zero_le _, hgb, r1, r2, r3, r4⟩⟩
    intro k hk
    simp [Value.ownBlock] at hk
    subst hk
    exact ⟨hbase, (Array.getElem?_eq_some_iff.1 hgb).1⟩
end Go.Proofs.YtdbdcbejmbpbmaaDoor
