/-
  A small library of our own: strings.Trim at a set of ASCII signs, as a contract over a frame.
-/
import Derived.Test.YtdbdcbejmbpbmaaDoorLibUv
import Derived.Test.YtdbdcbejmbpbmaaDoorLibSu
import Derived.Shelf.Strings.SlTrimAscii
namespace Go.GL
open Go Go.RowKit Go.Shelf
variable {P : Program} {ρ : Ren} {w0 w : World} {B : Nat} {fs : List HP}
def trimM (s cs : List UInt8) : List UInt8 := Lib.trimS s cs
theorem trim_own {s cs : List UInt8} (L : Go.Proofs.Lays.n160 P ρ) (h116 : (P.info? (ρ.t 116)).map (fun i => (i.zero, i.size)) = some (some (.agg (Array.replicate 256 (.bool false))), 256))
    (hS : Sep w0 B w fs) (hb : (s.length : Int) ≤ 4194304 ∧ (cs.length : Int) ≤ 4194304 ∧ cs.all (fun b => decide (b.toNat < 128)) = true) :
    Calls P (ρ.f 160) #[strV s, strV cs] w fun e w' => e = .returned (strV (trimM s cs)) ∧ Sep w0 B w' fs := by
  obtain ⟨h1, h2, h3⟩ := hb
  have hsz : ∀ x : List UInt8, (⟨x.toArray⟩ : ByteArray).size = x.length := fun x => by show x.toArray.size = _; simp
  have hs := hsz s
  have hc := hsz cs
  refine (Go.Proofs.Any.strings_Trim_laid L h116 ⟨s.toArray⟩ ⟨cs.toArray⟩ w (by omega) (by omega) ?_).mono ?_
  · intro j b hj
    have := List.mem_of_getElem? hj
    simp only at this
    exact of_decide_eq_true (List.all_eq_true.1 h3 b (by simpa using this))
  · rintro e w' ⟨rfl, hw⟩
    exact ⟨by simp [strV, trimM], hS.ofBelow hw⟩
end Go.GL
