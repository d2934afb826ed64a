/-
  Nothing beside Af.
-/
import Derived.Test.YthddlkhfkncgpaaGreatAf
