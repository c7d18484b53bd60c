/- An instruction takes as many cycles as its form says -/
import Derived.Test.YtlakggidkijcnaaTimesR
import Derived.Test.YtlakggidkijcnaaOpenTry
set_option linter.all false
/- CpuTimes: the row. -/
namespace Go.Proofs.Ytlakggidkijcnaa
open Go.LE Go.Gen.Try Go.ChangeShapes Go.WideShapes Go.ChangeAt Go.RowKit

theorem len7 : Try.f7.params.toList.length = 2 := by rw [Try.params7]; rfl

set_option maxRecDepth 100000 in
theorem cpuTimes_lifted (os : Os) (started : os.Started) (H : Type) (enc : TypeId × Value → H) :
    ReturnsInHanded {} Try.checked os 7 .any (Rows.cpuTimesSpec.pre6 enc Try.prog Try.f7 Rows.cpuTimesRow.domain false) (Rows.cpuTimesSpec.post enc Try.prog Try.f7 false true false false) := by
  refine returnsInHanded_of_change (C := Try.checked) own started (by kernel_rfl) Try.func7
    (ChangeSpec.witness6 (enc := enc) (C := Try.checked) false ⟨#[], #[T_api_Regs.v ⟨0, 0, 0, 0, 0, 0, 0, 0, 0, 0⟩, .slice none 0 0], []⟩ 8 (by kernel_rfl) (by kernel_rfl) (by kernel_rfl) (by kernel_rfl)) ?_
  intro W base args ds gs before hval hW _ _
  refine law_contract (fn := Try.f7) (tb := 4) laidOut (by kernel_rfl) rfl Try.underlying4 rfl (fun ds hl => spec2 (fun _ _ => rfl) ds (hl.trans len7)) ?_ W base args ds gs before hval hW
  intro W base args ds p hval hA _
  rw [Try.params7] at hA hval
  obtain ⟨v0, v1, d0, d1, p0, p1, hargs, rfl, rfl, h0, h1⟩ := trodAll_two hA
  subst hargs
  obtain ⟨r, rfl, hR⟩ := open_regs (hval 0 24 v0 rfl rfl) h0
  obtain ⟨L, A, hA1, hA2, hA3, hn, hQ⟩ := open_arg (cf := uc .u8) 3 Try.underlying45 lvs5 cells5 (fun _ => rfl) byte_cell (hval 1 45 v1 rfl rfl) h1
  have hl := c7.ok (r, A.own, none, L) true (times r A.own none L hQ)
  have e1 : (J7 (r, A.own, none, L)).map (·.1) = [A].map Arg.blk := by
    show [Sl.live ⟨List.flatMap (uc .u8) L, A.own, none⟩] = [Sl.live ⟨A.vals, A.own, none⟩]
    rw [hA1]
  have e2 : LCalls Try.prog 7 (A7 (r, A.own, none, L)) ([A].map Arg.blk) (.bool true) ((H7 (r, A.own, none, L) true).map (·.1)) := by rw [← e1]; exact hl
  have h4 := calls_args [A] e2 (by kernel_rfl)
  have e3 : (A7 (r, A.own, none, L)).map (tr ([A].map (·.loc))) = [r.v, v1] := by
    have : tr ([A].map (·.loc)) (.slice (some ⟨0, 0, none⟩) L.length 0) = v1 := by
      rw [← hA3, ← hA2]
      exact Arg.tr (A := [A]) (i := 0) rfl
    show [tr _ r.v, tr _ (.slice (some ⟨0, 0, none⟩) L.length 0)] = _
    rw [this]
    rfl
  rw [e3] at h4
  exact h4

theorem cpuTimes_holds : Rows.CpuTimesSaid :=
  OpenClaim.holds_of_wide 7 Try.f7 rfl rfl rfl rfl rfl rfl rfl ⟨rfl, rfl, rfl, rfl, rfl⟩ rfl rfl rfl rfl rfl (by kernel_rfl) Try.func7 (by kernel_rfl)
    (of_decide_eq_true (by kernel_rfl)) (by unfold Func.isWrapper; first | (rw [if_pos (by decide +kernel)]; kernel_rfl) | (rw [if_neg (by decide +kernel)]; exact ⟨rfl, rfl⟩))
    (fun os started H enc _ => cpuTimes_lifted os started H enc)
#print axioms cpuTimes_holds
end Go.Proofs.Ytlakggidkijcnaa
