/-
  clear, where what is cleared is a part of a row of strings of the call's own.
-/
import Derived.Test.YtdbdcbejmbpbmaaDoorLibD
import Derived.Test.YtdbdcbejmbpbmaaDoorLibSu
namespace Go.GL
open Go Go.RowKit
theorem ob_slss {P : Program} {C : World → Prop} {hyps : List (Bool × Bool)} {t : TypeId} {s1 s2 : List UInt8} {x : Bool} (o1 o2 : Operand) : Ob.holds P C x ⟨true, hyps, vS (do eqGuard .lss t o1 o2 (strV s1) (strV s2); binOp .lss t (strV s1) (strV s2)), .bool (Op.bytesLess s1 s2)⟩ :=
  Ob.any fun _ w => by
    simp only [eqGuard, binOp, Op.stringOp, Sem.run_bind, strV_toList]
    rfl
theorem setCells_T {m ys : List (List UInt8)} {lo : Nat} (h : lo + ys.length ≤ m.length) : setCells (List.map strV m) lo (List.map strV ys) = List.map strV (putL m lo ys) := by
  apply List.ext_getElem?
  intro j
  rw [setCells_get _ _ _ _ (by simpa using h)]
  simp only [List.getElem?_map, List.length_map]
  rw [putL_get h]
  split <;> rfl
theorem strV_ones (l : List (List UInt8)) : ∀ u ∈ List.map strV l, u.oneCell' = true := by
  intro u hu
  obtain ⟨x, _, rfl⟩ := List.mem_map.1 hu
  rfl
theorem zeroCells_str (n : Nat) : Builtin.zeroCells #[Value.string ⟨#[]⟩] n = (List.replicate n (Value.string ⟨#[]⟩)).toArray := by
  unfold Builtin.zeroCells
  apply Array.ext
  · simp
  · intro i h1 h2
    simp [Nat.mod_one]

variable {P : Program} {w0 w : World} {B : Nat} {l r : List HP} {e t t2 ty : TypeId} {inf : TypeInfo} {A A2 : Option Addr} {n c c2 dn dc n2 : Nat} {lo : Int} {m ys : List (List UInt8)}
theorem run_clearIT (hS : Sep w0 B w (l ++ own e (.slice A m.length c) (List.map strV m) :: r)) (ht : P.underlying t = some (.slice e)) (hi : P.info? e = some inf) (hz : inf.zero = some (.string ⟨#[]⟩)) (hb : 0 ≤ lo ∧ lo + dn ≤ (m.length : Int)) :
    ∃ w', (vS (Builtin.clear_ #[t] ty #[.slice (cutAddr A c lo) dn dc])).run P w = .ok (.value (.tuple #[])) w' ∧ Sep w0 B w' (l ++ own e (.slice A (putL m lo.toNat (List.replicate dn ([] : List UInt8))).length c) (List.map strV (putL m lo.toNat (List.replicate dn ([] : List UInt8)))) :: r) := by
  by_cases h0 : dn = 0
  · subst h0
    rw [show List.replicate 0 ([] : List UInt8) = [] from rfl, putL_nil]
    refine ⟨w, vS_run ?_, hS⟩
    cases hq : cutAddr A c lo <;> simp [Builtin.clear_, run_underlying ht]
  · have hml : 0 < m.length := by omega
    obtain ⟨⟨g, rfl⟩, hcap⟩ := own_addr hS (by simpa using hml)
    simp only [List.length_map] at hcap
    have hput : (putL m lo.toNat (List.replicate dn ([] : List UInt8))).length = m.length := putL_length (by rw [List.length_replicate]; omega)
    obtain ⟨w', h3, h4⟩ := own_store (P := P) (us := List.map strV (List.replicate dn ([] : List UInt8))) (s := lo.toNat) hS (strV_ones _) (by simp only [List.length_map, List.length_replicate]; omega)
    rw [setCells_T (by rw [List.length_replicate]; omega)] at h4
    refine ⟨w', vS_run ?_, by rw [hput]; exact h4⟩
    have hcut : cutAddr (some (⟨g, 0, none⟩ : Addr)) c lo = some ⟨g, lo.toNat, none⟩ := by
      unfold cutAddr
      rw [if_neg (by omega)]
      simp [Addr.add]
      omega
    rw [hcut]
    obtain ⟨k, rfl⟩ : ∃ k, dn = k + 1 := ⟨dn - 1, by omega⟩
    have hv : List.map strV (List.replicate (k + 1) ([] : List UInt8)) = List.replicate (k + 1) (Value.string ⟨#[]⟩) := by rw [List.map_replicate]
    rw [hv] at h3
    simp [Builtin.clear_, run_underlying ht, zeroValue, typeInfo, hi, hz, Value.cells, zeroCells_str, h3]
theorem run_clearCT {hi' : Int} (hS : Sep w0 B w (l ++ own e (.slice A n c) (List.map strV m) :: r)) (ht : P.underlying t = some (.slice e)) (hi : P.info? e = some inf) (hz : inf.zero = some (.string ⟨#[]⟩)) (hb : 0 ≤ lo ∧ lo ≤ hi' ∧ hi' ≤ (m.length : Int)) :
    ∃ w', (vS (Builtin.clear_ #[t] ty #[.slice (cutAddr A c lo) (cut m lo hi').length dc])).run P w = .ok (.value (.tuple #[])) w' ∧ Sep w0 B w' (l ++ own e (.slice A n c) (List.map strV (putL m lo.toNat (List.replicate (cut m lo hi').length ([] : List UInt8)))) :: r) := by
  have hnm : n = m.length := by
    obtain ⟨f, hf, _⟩ := hS.get
    have := own_len hf
    simpa using this
  subst hnm
  have hcl := cut_length hb.1 hb.2.1 hb.2.2
  obtain ⟨w', h1, h2⟩ := run_clearIT (lo := lo) (dn := (cut m lo hi').length) (dc := dc) (ty := ty) hS ht hi hz (by omega)
  refine ⟨w', h1, ?_⟩
  have hput : (putL m lo.toNat (List.replicate (cut m lo hi').length ([] : List UInt8))).length = m.length := putL_length (by rw [List.length_replicate]; omega)
  rwa [hput] at h2
end Go.GL
