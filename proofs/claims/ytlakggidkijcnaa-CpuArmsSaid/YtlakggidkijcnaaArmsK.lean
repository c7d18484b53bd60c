import Derived.Test.YtlakggidkijcnaaG2
set_option linter.all false
/- The plain law of CpuArms. -/
namespace Go.Gen.Try
open Go Go.LE

theorem range_all {n : Nat} {p : Nat → Bool} (h : (List.range n).all p = true) {i : Nat} (hi : i < n) : p i = true := List.all_eq_true.1 h i (List.mem_range.2 hi)
theorem byte_nat {x : Int} (h0 : 0 ≤ x) (h1 : x ≤ 255) : ∃ i : Nat, x = (i : Int) ∧ i < 256 := ⟨x.toNat, by omega, by omega⟩

def armsK (F A B C D E H L SP PC : Int) : Bool := (List.range 32).all fun p => match F5 (T_api_Regs.mk A F B C D E H L SP PC, (p : Int)) with | some true => true | _ => false

theorem arms0 (A B C D E H L SP PC : Int) : armsK 0 A B C D E H L SP PC = true := by kernel_rfl
theorem arms1 (A B C D E H L SP PC : Int) : armsK 16 A B C D E H L SP PC = true := by kernel_rfl
theorem arms2 (A B C D E H L SP PC : Int) : armsK 32 A B C D E H L SP PC = true := by kernel_rfl
theorem arms3 (A B C D E H L SP PC : Int) : armsK 48 A B C D E H L SP PC = true := by kernel_rfl
theorem arms4 (A B C D E H L SP PC : Int) : armsK 64 A B C D E H L SP PC = true := by kernel_rfl
theorem arms5 (A B C D E H L SP PC : Int) : armsK 80 A B C D E H L SP PC = true := by kernel_rfl
theorem arms6 (A B C D E H L SP PC : Int) : armsK 96 A B C D E H L SP PC = true := by kernel_rfl
theorem arms7 (A B C D E H L SP PC : Int) : armsK 112 A B C D E H L SP PC = true := by kernel_rfl
theorem arms8 (A B C D E H L SP PC : Int) : armsK 128 A B C D E H L SP PC = true := by kernel_rfl
theorem arms9 (A B C D E H L SP PC : Int) : armsK 144 A B C D E H L SP PC = true := by kernel_rfl
theorem arms10 (A B C D E H L SP PC : Int) : armsK 160 A B C D E H L SP PC = true := by kernel_rfl
theorem arms11 (A B C D E H L SP PC : Int) : armsK 176 A B C D E H L SP PC = true := by kernel_rfl
theorem arms12 (A B C D E H L SP PC : Int) : armsK 192 A B C D E H L SP PC = true := by kernel_rfl
theorem arms13 (A B C D E H L SP PC : Int) : armsK 208 A B C D E H L SP PC = true := by kernel_rfl
theorem arms14 (A B C D E H L SP PC : Int) : armsK 224 A B C D E H L SP PC = true := by kernel_rfl
theorem arms15 (A B C D E H L SP PC : Int) : armsK 240 A B C D E H L SP PC = true := by kernel_rfl
end Go.Gen.Try