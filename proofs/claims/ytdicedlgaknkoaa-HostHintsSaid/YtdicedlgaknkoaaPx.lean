/-
  The printed functions of this seat.
-/
import Derived.Test.YtdicedlgaknkoaaHo5
