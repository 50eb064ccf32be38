/-
  Plain law for hall's books: an entry, as the program and as the document make it.
-/
import Derived.Test.YtlpaklmfgldkoaaNHB
import Derived.Test.YtlpaklmfgldkoaaLibX
import Derived.Test.YtlpaklmfgldkoaaLibY
import Derived.Test.YtlpaklmfgldkoaaLibN
namespace Go.Proofs.Ytlpaklmfgldkoaa
open Go Go.GL

/-- The weighted sum of the first bytes. -/
def wsum (l : List UInt8) : Nat → Nat
  | 0 => 0
  | k + 1 => wsum l k + (k + 1) * (l.getD k 0).toNat

theorem wsum_le (l : List UInt8) : ∀ k, k ≤ 255 → wsum l k ≤ k * 65025
  | 0, _ => by simp [wsum]
  | k + 1, h => by
    have ih := wsum_le l k (by omega)
    have hb : (l.getD k 0).toNat ≤ 255 := by have := (l.getD k 0).toNat_lt; omega
    have h2 : (k + 1) * (l.getD k 0).toNat ≤ 255 * 255 := Nat.mul_le_mul h hb
    simp only [wsum]
    omega

def entH (l : List UInt8) : List Int := [IntKind.wrap .u8 (l.length : Int), IntKind.wrap .u8 (w64 (255 - (l.length : Int)))]
def entT (l : List UInt8) : List Int := [IntKind.wrap .u8 ((wsum l l.length % 65521 / 256 : Nat) : Int), IntKind.wrap .u8 ((wsum l l.length % 65521 : Nat) : Int)]
/-- An entry of a line. -/
def ent (l : List UInt8) : List Int := entH l ++ i8 l ++ entT l

theorem ent_length (l : List UInt8) : (ent l).length = l.length + 4 := by simp [ent, entH, entT, i8]

theorem bigB_of {n k : Int} (h : n + k ≤ 100000) : n + k ≤ bigB := by unfold bigB; omega

theorem getU_nat (l : List UInt8) (k : Nat) : getU l (k : Int) = ((l.getD k 0).toNat : Int) := by simp [getU]
theorem w64_byte (l : List UInt8) (k : Nat) : w64 (getU l (k : Int)) = ((l.getD k 0).toNat : Int) := by
  rw [getU_nat]
  have := (l.getD k 0).toNat_lt
  exact w64_of (by omega)

theorem step_sum {l : List UInt8} {k : Nat} (hk : k < l.length) (hl : l.length ≤ 255) (s : Nat) (hs : s ≤ 20000000) :
    w64 ((s : Int) + w64 (w64 ((k : Int) + 1) * w64 (getU l (k : Int)))) = ((s + (k + 1) * (l.getD k 0).toNat : Nat) : Int) := by
  have hb : (l.getD k 0).toNat ≤ 255 := by have := (l.getD k 0).toNat_lt; omega
  have h2 : (k + 1) * (l.getD k 0).toNat ≤ 255 * 255 := Nat.mul_le_mul (by omega) hb
  rw [w64_byte, w64_of (x := (k : Int) + 1) (by omega)]
  have e : ((k : Int) + 1) * ((l.getD k 0).toNat : Int) = (((k + 1) * (l.getD k 0).toNat : Nat) : Int) := by push_cast; rfl
  rw [e, w64_of (x := (((k + 1) * (l.getD k 0).toNat : Nat) : Int)) (by omega), w64_of (by omega)]
  push_cast
  rfl

theorem entry_p {l : List UInt8} (hl : l.length ≤ 255) : hall_entry_m l = some (ent l) := by
  unfold hall_entry_m
  have hloop : loop (hall_entry_L1 l) (0, 0) = some ((wsum l l.length : Nat) : Int) := by
    refine loop_from (f := fun k => (((wsum l k : Nat) : Int), (k : Int))) l.length rfl (fun k hk => ?_) ?_
    · have hw := wsum_le l k (by omega)
      simp only [hall_entry_L1, hall_entry_J2, hall_entry_J3]
      rw [if_pos (by simpa using hk), asrt_pos (by omega), step_sum hk hl _ (by omega), w64_of (by omega)]
      simp [wsum]
    · simp only [hall_entry_L1]
      rw [if_neg (by simp)]
  have hw := wsum_le l l.length hl
  have hb1 := bigB_of (n := 2) (k := (l.length : Int)) (by omega)
  have hb2 := bigB_of (n := ((entH l ++ i8 l).length : Int)) (k := 2) (by simp [entH, i8]; omega)
  rw [hloop, Option.bind_some]
  unfold hall_entry_K1 hall_entry_J1
  dsimp only
  rw [asrt_pos hb1]
  change asrt (((entH l ++ i8 l).length : Int) + 2 ≤ bigB) _ = _
  rw [asrt_pos hb2]
  have e1 : Int.tmod ((wsum l l.length : Nat) : Int) 65521 = ((wsum l l.length % 65521 : Nat) : Int) := tmod_nat _ 65521
  have e2 : shrK .i64 ((wsum l l.length % 65521 : Nat) : Int) 8 = ((wsum l l.length % 65521 / 256 : Nat) : Int) := by
    unfold shrK
    have : (2 : Int) ^ (min (8 : Int).toNat IntKind.i64.bits) = 256 := by decide
    rw [this]
    simp [Int.fdiv_eq_ediv]
  rw [e1, e2]
  rfl

theorem entry_d {l : List UInt8} (hl : l.length ≤ 255) : gameroomref_EntryOf_m l = some (ent l) := by
  unfold gameroomref_EntryOf_m
  have hloop : loop (gameroomref_EntryOf_L1 l) (entH l, 0, 0) = some (entH l ++ i8 l, ((wsum l l.length % 65521 : Nat) : Int)) := by
    refine loop_from (f := fun k => (entH l ++ i8 (l.take k), ((wsum l k % 65521 : Nat) : Int), (k : Int))) l.length (by simp [i8, wsum]) (fun k hk => ?_) ?_
    · have hlt : wsum l k % 65521 < 65521 := Nat.mod_lt _ (by omega)
      have hb := bigB_of (n := ((entH l ++ i8 (l.take k)).length : Int)) (k := 1) (by simp [entH, i8]; omega)
      simp only [gameroomref_EntryOf_L1, gameroomref_EntryOf_J2, gameroomref_EntryOf_J3]
      rw [if_pos (by simpa using hk), asrt_pos (by omega), asrt_pos hb, asrt_pos (by omega), step_sum hk hl _ (by omega), w64_of (by omega), show (65521 : Int) = ((65521 : Nat) : Int) from rfl, tmod_nat]
      have e3 : (wsum l k % 65521 + (k + 1) * (l.getD k 0).toNat) % 65521 = wsum l (k + 1) % 65521 := by simp only [wsum]; omega
      have e4 : entH l ++ i8 (l.take k) ++ ([getU l (k : Int)] : List Int) = entH l ++ i8 (l.take (k + 1)) := by
        rw [getU_nat, List.append_assoc]
        congr 1
        rw [List.take_succ_eq_append_getElem hk]
        unfold i8
        rw [List.map_append]
        congr 1
        simp [List.getD_eq_getElem?_getD, hk]
      rw [e3, e4]
      rfl
    · simp only [gameroomref_EntryOf_L1]
      rw [if_neg (by simp)]
      simp
  show (loop (gameroomref_EntryOf_L1 l) (entH l, 0, 0)).bind gameroomref_EntryOf_K1 = _
  have hb := bigB_of (n := ((entH l ++ i8 l).length : Int)) (k := 2) (by simp [entH, i8]; omega)
  rw [hloop, Option.bind_some]
  unfold gameroomref_EntryOf_K1 gameroomref_EntryOf_J1
  dsimp only
  rw [asrt_pos hb]
  have hlt : wsum l l.length % 65521 < 65521 := Nat.mod_lt _ (by omega)
  have e1 : Int.tdiv ((wsum l l.length % 65521 : Nat) : Int) 256 = ((wsum l l.length % 65521 / 256 : Nat) : Int) := tdiv_nat _ 256
  have e2 : Int.tmod ((wsum l l.length % 65521 : Nat) : Int) 256 = ((wsum l l.length % 65521 % 256 : Nat) : Int) := tmod_nat _ 256
  rw [e1, e2, w64_of (by omega)]
  have e3 : IntKind.wrap .u8 ((wsum l l.length % 65521 % 256 : Nat) : Int) = IntKind.wrap .u8 ((wsum l l.length % 65521 : Nat) : Int) := by
    simp [IntKind.wrap, IntKind.signed, IntKind.bits]
  rw [e3]
  rfl
end Go.Proofs.Ytlpaklmfgldkoaa
