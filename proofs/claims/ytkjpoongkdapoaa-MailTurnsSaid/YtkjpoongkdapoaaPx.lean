/-
  The printed functions of this seat.
-/
import Derived.Test.YtkjpoongkdapoaaMa2
