/-
  A part of the proofs of this seat: laws of the walk, or contracts of the functions that the statements reach. No conditions but those that each theorem names.
-/
import Derived.Test.YthpjihiikkhcjaaSt
import Derived.Test.YthpjihiikkhcjaaRows
namespace Go.Proofs.Ythpjihiikkhcjaa
open Go.RowKit Go.Sp
theorem fo62_0 : fieldOff Try.prog 86 0 = some 0 := by kernel_rfl
theorem fo62_1 : fieldOff Try.prog 86 1 = some 8 := by kernel_rfl
theorem ar25 : arrOf Try.prog 25 = some 8 := by kernel_rfl
theorem ar34 : arrOf Try.prog 64 = some 16 := by kernel_rfl
theorem ar35 : arrOf Try.prog 65 = some 16 := by kernel_rfl
theorem sl29 : slOf Try.prog 23 = true := by kernel_rfl
theorem on24 : oneT Try.prog 24 = true := by kernel_rfl
theorem on5 : oneT Try.prog 5 = true := by kernel_rfl
theorem on3 : oneT Try.prog 3 = true := by kernel_rfl
theorem on29 : oneT Try.prog 23 = true := by kernel_rfl
theorem pf47 : plainFn Try.prog 68 = true := by kernel_rfl
end Go.Proofs.Ythpjihiikkhcjaa
