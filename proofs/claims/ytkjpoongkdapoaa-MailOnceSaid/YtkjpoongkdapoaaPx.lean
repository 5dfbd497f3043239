/-
  The printed functions of this seat.
-/
import Derived.Test.YtkjpoongkdapoaaMr1
