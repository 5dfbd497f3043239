/-
  The printed functions of this seat.
-/
import Derived.Test.YtokamjlhdidefaaNp5
