/- A halted processor asks for nothing till something is pending -/
import Derived.Test.YtlakggidkijcnaaHaltsP
import Derived.Test.YtlakggidkijcnaaOpenTry
set_option linter.all false
/- CpuHalts: the row. -/
namespace Go.Proofs.Ytlakggidkijcnaa
open Go.LE Go.Gen.Try Go.ChangeShapes Go.WideShapes Go.ChangeAt Go.RowKit

theorem len4 : Try.f4.params.toList.length = 4 := by rw [Try.params4]; rfl

set_option maxRecDepth 100000 in
theorem cpuHalts_lifted (os : Os) (started : os.Started) (H : Type) (enc : TypeId × Value → H) :
    ReturnsInHanded {} Try.checked os 4 .any (Rows.cpuHaltsSpec.pre6 enc Try.prog Try.f4 Rows.cpuHaltsRow.domain false) (Rows.cpuHaltsSpec.post enc Try.prog Try.f4 false true false false) := by
  refine returnsInHanded_of_change (C := Try.checked) own started (by kernel_rfl) Try.func4
    (ChangeSpec.witness6 (enc := enc) (C := Try.checked) false ⟨#[], #[T_api_Regs.v ⟨0, 0, 0, 0, 0, 0, 0, 0, 0, 0⟩, .bool false, .int .u8 0, .int .u8 0], []⟩ 8 (by kernel_rfl) (by kernel_rfl) (by kernel_rfl) (by kernel_rfl)) ?_
  intro W base args ds gs before hval hW _ _
  refine law_contract (fn := Try.f4) (tb := 4) laidOut (by kernel_rfl) rfl Try.underlying4 rfl (fun ds hl => spec4 (fun _ _ _ _ => rfl) ds (hl.trans len4)) ?_ W base args ds gs before hval hW
  intro W base args ds p hval hA _
  rw [Try.params4] at hA hval
  obtain ⟨v0, v1, v2, v3, d0, d1, d2, d3, p0, p1, p2, p3, hargs, rfl, rfl, h0, h1, h2, h3⟩ := trodAll_four hA
  subst hargs
  obtain ⟨r, rfl, hR⟩ := open_regs (hval 0 24 v0 rfl rfl) h0
  obtain ⟨ime, rfl, rfl, rfl⟩ := open_bool Try.underlying4 (hval 1 4 v1 rfl rfl) h1
  obtain ⟨b, rfl, rfl, rfl, wb⟩ := open_int Try.underlying5 (hval 2 5 v2 rfl rfl) h2
  obtain ⟨d, rfl, rfl, rfl, wd⟩ := open_int Try.underlying5 (hval 3 5 v3 rfl rfl) h3
  exact calls_plain (c4.ok (r, ime, b, d) true (halts r ime b d (byte_of wb) (byte_of wd))) (by kernel_rfl) W

theorem cpuHalts_holds : Rows.CpuHaltsSaid :=
  OpenClaim.holds_of_wide 4 Try.f4 rfl rfl rfl rfl rfl rfl rfl ⟨rfl, rfl, rfl, rfl, rfl⟩ rfl rfl rfl rfl rfl (by kernel_rfl) Try.func4 (by kernel_rfl)
    (of_decide_eq_true (by kernel_rfl)) (by unfold Func.isWrapper; first | (rw [if_pos (by decide +kernel)]; kernel_rfl) | (rw [if_neg (by decide +kernel)]; exact ⟨rfl, rfl⟩))
    (fun os started H enc _ => cpuHalts_lifted os started H enc)
#print axioms cpuHalts_holds
end Go.Proofs.Ytlakggidkijcnaa
