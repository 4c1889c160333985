/- The library's Len64 and LeadingZeros8, by the shelf's contracts. -/
import Derived.Test.YtmhhppolhciigaaRows
import Derived.WalkKit
import Derived.Shelf.Small.Bits
import Derived.Shelf.Strconv.Itoa0
namespace Go.Proofs.Ytmhhppolhciigaa
open Go.RowKit Go.Shelf
set_option linter.unusedVariables false

/-- The shelf's numbers, as this program has them. -/
def ren : Ren := ⟨fun n => if n = 126 then 30 else if n = 129 then 31 else if n = 131 then 25 else 0, fun n => if n = 46 then 34 else if n = 53 then 27 else n, fun n => n⟩

theorem lays129 : Lays.n129 Try.prog ren where
  mixed := by kernel_rfl
  f129 := by kernel_rfl
  t3 := by kernel_rfl
  a3 := fun _ => rfl
  z3 := fun _ => rfl
  v3 := fun _ => rfl
  t4 := by kernel_rfl
  a4 := fun _ => rfl
  z4 := fun _ => rfl
  v4 := fun _ => rfl
  t5 := by kernel_rfl
  a5 := fun _ => rfl
  z5 := fun _ => rfl
  v5 := fun _ => rfl
  t9 := by kernel_rfl
  a9 := fun _ => rfl
  z9 := fun _ => rfl
  v9 := fun _ => rfl
  t46 := by kernel_rfl
  a46 := fun _ => rfl
  z46 := fun _ => rfl
  v46 := fun _ => rfl
  t53 := by kernel_rfl
  a53 := fun _ => rfl
  z53 := fun _ => rfl
  v53 := fun _ => rfl

theorem lays131 : Lays.n131 Try.prog ren where
  mixed := by kernel_rfl
  f126 := by kernel_rfl
  f131 := by kernel_rfl
  t3 := by kernel_rfl
  a3 := fun _ => rfl
  z3 := fun _ => rfl
  v3 := fun _ => rfl
  t5 := by kernel_rfl
  a5 := fun _ => rfl
  z5 := fun _ => rfl
  v5 := fun _ => rfl
  t9 := by kernel_rfl
  a9 := fun _ => rfl
  z9 := fun _ => rfl
  v9 := fun _ => rfl

theorem len64_any (x : Int) (w : World) (h0 : 0 ≤ x) (h1 : x ≤ 18446744073709551615) :
    Calls Try.prog 31 #[.int .u64 x] w fun e w' => e = .returned (.int .i64 (Lib.bitLen x.toNat)) ∧ w' = w := Any.bits_Len64 lays129 x w h0 h1
theorem lead8_any (x : Int) (w : World) (h0 : 0 ≤ x) (h1 : x ≤ 255) :
    Calls Try.prog 25 #[.int .u8 x] w fun e w' => e = .returned (.int .i64 (8 - (Lib.bitLen x.toNat : Int))) ∧ w' = w := Any.bits_LeadingZeros8 lays131 x w h0 h1
#print axioms len64_any
#print axioms lead8_any
end Go.Proofs.Ytmhhppolhciigaa
