/- An interrupt that is let in is called in five cycles -/
import Derived.Test.YtlakggidkijcnaaCallsP
import Derived.Test.YtlakggidkijcnaaOpenTry
set_option linter.all false
/- CpuCalls: the row. -/
namespace Go.Proofs.Ytlakggidkijcnaa
open Go.LE Go.Gen.Try Go.ChangeShapes Go.WideShapes Go.ChangeAt Go.RowKit

theorem len3 : Try.f3.params.toList.length = 3 := by rw [Try.params3]; rfl

set_option maxRecDepth 100000 in
theorem cpuCalls_lifted (os : Os) (started : os.Started) (H : Type) (enc : TypeId × Value → H) :
    ReturnsInHanded {} Try.checked os 3 .any (Rows.cpuCallsSpec.pre6 enc Try.prog Try.f3 Rows.cpuCallsRow.domain false) (Rows.cpuCallsSpec.post enc Try.prog Try.f3 false true false false) := by
  refine returnsInHanded_of_change (C := Try.checked) own started (by kernel_rfl) Try.func3
    (ChangeSpec.witness6 (enc := enc) (C := Try.checked) false ⟨#[], #[T_api_Regs.v ⟨0, 0, 0, 0, 0, 0, 0, 0, 0, 0⟩, .int .u8 0, .int .u8 0], []⟩ 8 (by kernel_rfl) (by kernel_rfl) (by kernel_rfl) (by kernel_rfl)) ?_
  intro W base args ds gs before hval hW _ _
  refine law_contract (fn := Try.f3) (tb := 4) laidOut (by kernel_rfl) rfl Try.underlying4 rfl (fun ds hl => spec3 (fun _ _ _ => rfl) ds (hl.trans len3)) ?_ W base args ds gs before hval hW
  intro W base args ds p hval hA _
  rw [Try.params3] at hA hval
  obtain ⟨v0, v1, v2, d0, d1, d2, p0, p1, p2, hargs, rfl, rfl, h0, h1, h2⟩ := trodAll_three hA
  subst hargs
  obtain ⟨r, rfl, hR⟩ := open_regs (hval 0 24 v0 rfl rfl) h0
  obtain ⟨b, rfl, rfl, rfl, wb⟩ := open_int Try.underlying5 (hval 1 5 v1 rfl rfl) h1
  obtain ⟨d, rfl, rfl, rfl, wd⟩ := open_int Try.underlying5 (hval 2 5 v2 rfl rfl) h2
  exact calls_plain (c3.ok (r, b, d) true (calls r b d (byte_of wb) (byte_of wd))) (by kernel_rfl) W

theorem cpuCalls_holds : Rows.CpuCallsSaid :=
  OpenClaim.holds_of_wide 3 Try.f3 rfl rfl rfl rfl rfl rfl rfl ⟨rfl, rfl, rfl, rfl, rfl⟩ rfl rfl rfl rfl rfl (by kernel_rfl) Try.func3 (by kernel_rfl)
    (of_decide_eq_true (by kernel_rfl)) (by unfold Func.isWrapper; first | (rw [if_pos (by decide +kernel)]; kernel_rfl) | (rw [if_neg (by decide +kernel)]; exact ⟨rfl, rfl⟩))
    (fun os started H enc _ => cpuCalls_lifted os started H enc)
#print axioms cpuCalls_holds
end Go.Proofs.Ytlakggidkijcnaa
