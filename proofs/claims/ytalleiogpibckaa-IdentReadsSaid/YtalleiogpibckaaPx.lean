/-
  The printed functions of this seat.
-/
import Derived.Test.YtalleiogpibckaaIe2
