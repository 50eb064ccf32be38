/-
  A small library of our own: the shelf's functions on strings, as contracts over a frame.
-/
import Derived.Test.YtdbdcbejmbpbmaaDoorLibSt
import Derived.Test.YtdbdcbejmbpbmaaDoorLibUv
import Derived.Test.YtdbdcbejmbpbmaaDoorLibSu
import Derived.Shelf.Strconv.Itoa3
import Derived.Shelf.Strconv.AtoiAll
import Derived.Shelf.Strings.Split
import Derived.Shelf.Strings.Search3
namespace Go.GL
open Go Go.RowKit Go.Shelf
variable {P : Program} {ρ : Ren} {w0 w : World} {B : Nat} {fs : List HP}

/-- A package-level int that is read and never written: whatever it holds. -/
class IntG (g : Nat) (w0 : World) (B : Nat) : Prop where
  cell : ∀ (w : World), Below B w0 w → ∃ m : Int, w.cell? ⟨g, 0, none⟩ = some (.int .i64 m)
/-- A package-level error. -/
class ErrG (g : Nat) (w0 : World) (B : Nat) : Prop where
  cell : ∀ (w : World), Below B w0 w → ∃ ev, w.cell? ⟨g, 0, none⟩ = some ev ∧ (ev = .nilIface ∨ ∃ te pe, ev = .iface te pe)
theorem IntG.of {g : Nat} {W : World} {m : Int} (h : W.cell? ⟨g, 0, none⟩ = some (.int .i64 m)) : IntG g W W.heap.size :=
  ⟨fun w hw => ⟨m, (hw.cell (show (⟨g, 0, none⟩ : Addr).block < W.heap.size from Lib.lt_of_cell h)).trans h⟩⟩
theorem ErrG.of {g : Nat} {W : World} {ev : Value} (h : W.cell? ⟨g, 0, none⟩ = some ev) (he : ev = .nilIface ∨ ∃ te pe, ev = .iface te pe) : ErrG g W W.heap.size :=
  ⟨fun w hw => ⟨ev, (hw.cell (show (⟨g, 0, none⟩ : Addr).block < W.heap.size from Lib.lt_of_cell h)).trans h, he⟩⟩

theorem Sep.litL (hS : Sep w0 B w fs) (e : TypeId) (cs : Array Value) (n : Nat) (hn : cs.size = n) (hm : n ≤ maxLen) : Sep w0 B (w.alloc (.cells cs e)) (own e (.slice (some ⟨w.heap.size, 0, none⟩) n n) cs.toList :: fs) := by
  refine hS.add (by simpa using Ex.of_grown (World.grownBy_alloc w _ none)) (f := [w.heap.size]) ⟨?_, by simp [Value.ownBlock]⟩ ?_
  · have := World.ownsRow_lit (base := 0) (e := e) (size := 1) w cs n (Nat.zero_le _) hm (by omega)
    simpa [hn] using this
  · intro k hk
    simp at hk
    subst hk
    simp

theorem below_grew (w : World) (k : Nat) (os : Array Obj) : Below w.heap.size w (Sort.grow (w.drewN k) os) :=
  ⟨rfl, rfl, rfl, by simp [Sort.grow, World.drewN], fun j hj => by simp only [Sort.grow, World.drewN]; rw [Array.getElem?_append_left hj]⟩
/-- The table of powers that strconv reads. -/
class PowG (P : Program) (w0 : World) (B : Nat) : Prop where
  tab : ∀ (w : World), Below B w0 w → Lib.TabIs P w "internal/strconv.uint64pow10" .u64 Lib.pow10Tab
def itoaL (i : Int) : List UInt8 := Lib.itoa i
theorem itoa_own {i : Int} [G : PowG P w0 B] (L : Go.Proofs.LaysM.n171 P ρ) (hS : Sep w0 B w fs) (hb : inI i) :
    Calls P (ρ.f 171) #[.int .i64 i] w fun e w' => e = .returned (strV (itoaL i)) ∧ Sep w0 B w' fs := by
  unfold inI at hb
  refine (Go.Proofs.Any.strconv_Itoa L i (by omega) (by omega) w (G.tab w hS.below)).mono ?_
  rintro e w' ⟨rfl, k, os, rfl⟩
  exact ⟨rfl, hS.ofBelow (below_grew w k os)⟩

/-- strings.Split at a separator that is not empty. -/
def splitM (s sep : List UInt8) : List (List UInt8) := Lib.splitK sep 0 (Lib.countB ⟨s.toArray⟩ ⟨sep.toArray⟩) s
theorem splitM_len (s sep : List UInt8) (h : sep ≠ []) : (splitM s sep).length = Lib.countB ⟨s.toArray⟩ ⟨sep.toArray⟩ + 1 := by
  have h1 : 1 ≤ (⟨sep.toArray⟩ : ByteArray).size := by
    have : (⟨sep.toArray⟩ : ByteArray).size = sep.length := by show sep.toArray.size = _; simp
    have := List.length_pos_iff.2 h
    omega
  have e := Lib.splitB_data ⟨sep.toArray⟩ 0 (Lib.countB ⟨s.toArray⟩ ⟨sep.toArray⟩) ⟨s.toArray⟩
  have hl := Lib.splitB_all ⟨sep.toArray⟩ h1 0 _ ⟨s.toArray⟩ rfl
  have e2 : splitM s sep = (Lib.splitB ⟨sep.toArray⟩ 0 (Lib.countB ⟨s.toArray⟩ ⟨sep.toArray⟩) ⟨s.toArray⟩).map (·.data.toList) := by rw [e]; rfl
  rw [e2, List.length_map, hl]
theorem split_own {s sep : List UInt8} {t9 : TypeId} {g1 : Nat} [G : IntG g1 w0 B] (L : Go.Proofs.Lays.n146 P ρ) (h9 : ρ.t 9 = t9) (hg : ρ.g 1 = g1)
    (hi9 : (P.info? (ρ.t 9)).map (fun i => (i.zero, i.size, i.bytes)) = some (some (.string ByteArray.empty), 1, 16))
    (hS : Sep w0 B w fs) (hb : (s.length : Int) ≤ 4194304) (hs : sep ≠ []) :
    Calls P (ρ.f 146) #[strV s, strV sep] w fun e w' => ∃ v, e = .returned v ∧ ∃ A c, v = .slice A (splitM s sep).length c ∧ Sep w0 B w' (own t9 (.slice A (splitM s sep).length c) (List.map strV (splitM s sep)) :: fs) := by
  obtain ⟨m, hm⟩ := G.cell w hS.below
  have hsz : (⟨s.toArray⟩ : ByteArray).size = s.length := by show s.toArray.size = _; simp
  have h1 : 1 ≤ (⟨sep.toArray⟩ : ByteArray).size := by
    have : (⟨sep.toArray⟩ : ByteArray).size = sep.length := by show sep.toArray.size = _; simp
    have := List.length_pos_iff.2 hs
    omega
  have hle := Lib.countB_le (⟨sep.toArray⟩ : ByteArray) h1 s.length ⟨s.toArray⟩ (by omega)
  have hlen := Lib.splitB_all ⟨sep.toArray⟩ h1 0 _ ⟨s.toArray⟩ rfl
  have hl := splitM_len s sep hs
  have hcl : Lib.countB ⟨s.toArray⟩ ⟨sep.toArray⟩ + 1 ≤ 4194305 := by omega
  refine (Go.Proofs.Any.strings_Split L hi9 ⟨s.toArray⟩ ⟨sep.toArray⟩ m w (by omega) (by rw [hg]; exact hm) h1).mono ?_
  rintro e w' ⟨rfl, rfl⟩
  refine ⟨_, rfl, some ⟨w.heap.size, 0, none⟩, Lib.countB ⟨s.toArray⟩ ⟨sep.toArray⟩ + 1, by rw [hl], ?_⟩
  rw [hl]
  have he : List.map strV (splitM s sep) = ((Lib.splitB ⟨sep.toArray⟩ 0 (Lib.countB ⟨s.toArray⟩ ⟨sep.toArray⟩) ⟨s.toArray⟩).map Value.string) := by
    have e := Lib.splitB_data ⟨sep.toArray⟩ 0 (Lib.countB ⟨s.toArray⟩ ⟨sep.toArray⟩) ⟨s.toArray⟩
    have e2 : splitM s sep = (Lib.splitB ⟨sep.toArray⟩ 0 (Lib.countB ⟨s.toArray⟩ ⟨sep.toArray⟩) ⟨s.toArray⟩).map (·.data.toList) := by rw [e]; rfl
    rw [e2, List.map_map]
    apply List.map_congr_left
    intro x _
    simp [strV]
  rw [he, h9]
  have := hS.litL t9 ((Lib.splitB ⟨sep.toArray⟩ 0 (Lib.countB ⟨s.toArray⟩ ⟨sep.toArray⟩) ⟨s.toArray⟩).map Value.string).toArray (Lib.countB ⟨s.toArray⟩ ⟨sep.toArray⟩ + 1) (by simp [hlen]) (by unfold maxLen; omega)
  simpa using this

/-- An error that may be nil. -/
def errV (b : Bool) (T : TypeId) (N : Nat) : Value := if b then .iface T (.pointer (some ⟨N, 0, none⟩)) else .nilIface
section
variable {C : World → Prop} {hyps : List (Bool × Bool)} {t : TypeId}
theorem run_equal_errV (b : Bool) (T : TypeId) (N : Nat) {ms : Array (String × TypeId)} (w : World) (h : P.underlying t = some (.interface ms)) : (Op.equal t (errV b T N) .nilIface).run P w = .ok (!b) w := by
  have e : ∀ d, (Op.equalIn (d + 1) t (errV b T N) .nilIface).run P w = .ok (!b) w := fun d => by
    cases b <;> simp [Op.equalIn, errV, run_underlying h]
  exact e 9999
theorem ob_errne {x : Bool} {ms : Array (String × TypeId)} (h : P.underlying t = some (.interface ms)) (o1 : Operand) (b : Bool) (T : TypeId) (N : Nat) : Ob.holds P C x ⟨true, hyps, vS (do eqGuard .neq t o1 (.const .nilIface) (errV b T N) .nilIface; binOp .neq t (errV b T N) .nilIface), .bool b⟩ :=
  Ob.any fun _ w => by
    have hq := run_equal_errV b T N w h
    have e : (binOp .neq t (errV b T N) .nilIface).run P w = .ok (.bool b) w := by
      cases b
      · rw [show errV false T N = .nilIface from rfl] at hq ⊢
        simp only [binOp]
        simp [hq]
      · rw [show errV true T N = .iface T (.pointer (some ⟨N, 0, none⟩)) from rfl] at hq ⊢
        simp only [binOp]
        simp [hq]
    have g : (eqGuard .neq t o1 (.const .nilIface) (errV b T N) .nilIface).run P w = .ok () w := by
      cases b <;> simp [errV, go_sem]
    simp only [Sem.run_bind, g]
    exact e
end
def atoiN (s : List UInt8) : Int := match Lib.atoiAll s with | .ok n => n | .syntax => 0 | .range => Lib.atoiSat s
def atoiE (s : List UInt8) : Bool := match Lib.atoiAll s with | .ok _ => false | _ => true
theorem atoi_own {s : List UInt8} {T : TypeId} {g15 g16 : Nat} [G : ErrG g15 w0 B] [G2 : ErrG g16 w0 B] (L : Go.Proofs.LaysC.n172 P ρ) (hT : ρ.t 168 = T) (h15 : ρ.g 15 = g15) (h16 : ρ.g 16 = g16)
    (hS : Sep w0 B w fs) (hb : (s.length : Int) ≤ 4194304) :
    Calls P (ρ.f 172) #[strV s] w fun e w' => ∃ v, e = .returned v ∧ ∃ N, v = .tuple #[.int .i64 (atoiN s), errV (atoiE s) T N] ∧ Sep w0 B w' fs := by
  have hsz : (⟨s.toArray⟩ : ByteArray).size = s.length := by show s.toArray.size = _; simp
  have hl : (⟨s.toArray⟩ : ByteArray).data.toList = s := by simp
  cases h : Lib.atoiAll s with
  | ok v =>
    refine (Go.Proofs.Any.strconv_Atoi_ok L ⟨s.toArray⟩ (by omega) v (by rw [hl]; exact h) w).mono ?_
    rintro e w' ⟨rfl, hw⟩
    refine ⟨_, rfl, 0, by simp [atoiN, atoiE, errV, h], ?_⟩
    rcases hw with rfl | ⟨t, rfl⟩
    · exact hS
    · exact hS.ofBelow (Lib.bytesWorld_below _ _ _)
  | «syntax» =>
    obtain ⟨ev, hv, hev⟩ := G.cell w hS.below
    refine (Go.Proofs.Any.strconv_Atoi_syntax L ⟨s.toArray⟩ (by omega) (by rw [hl]; exact h) ev w (by rw [h15]; exact hv) hev).mono ?_
    rintro e w' ⟨N, rfl, _, _, hw⟩
    exact ⟨_, rfl, N, by simp [atoiN, atoiE, errV, h, hT], hS.ofBelow hw⟩
  | range =>
    obtain ⟨ev, hv, hev⟩ := G2.cell w hS.below
    refine (Go.Proofs.Any.strconv_Atoi_range L ⟨s.toArray⟩ (by omega) (by rw [hl]; exact h) ev w (by rw [h16]; exact hv) hev).mono ?_
    rintro e w' ⟨N, rfl, _, _, hw⟩
    exact ⟨_, rfl, N, by simp [atoiN, atoiE, errV, h, hT], hS.ofBelow hw⟩
end Go.GL
