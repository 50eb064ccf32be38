/-
  Short words for values that the walks speak of often.
-/
import Derived.Test.YtfmmlmiakkjaiaaFB
namespace Go.Proofs.Ytfmmlmiakkjaiaa
open Go
abbrev ChT := List Int × Int × Int × Int × Int × Int
abbrev ChT5 := List Int × Int × Int × Int × Int
abbrev MvT := Int × Int × Int
abbrev vi : Int → Value := Value.int .i64
abbrev pa (g o : Nat) : Value := .pointer (some ⟨g, o, none⟩)
abbrev ca (A : Option Addr) (n c : Nat) (p2 p3 p4 p5 p6 : Int) : Array Value := #[.slice A n c, .int .i64 p2, .int .i64 p3, .int .i64 p4, .int .i64 p5, .int .i64 p6]
end Go.Proofs.Ytfmmlmiakkjaiaa
