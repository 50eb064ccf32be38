/-
  The shelf's laying of utf8.ValidString at this program (printed by the kit's own command, in plain words).
-/
import Derived.Test.YtdbdcbejmbpbmaaDoorFB
import Derived.Shelf.Unicode.ValidAny
namespace Go.Proofs.YtdbdcbejmbpbmaaDoor
open Go Go.GL Go.Shelf

end Go.Proofs.YtdbdcbejmbpbmaaDoor
