/- CpuLocks answers true for every input: behind an illegal opcode the processor asks for nothing more and stays as it is; no condition. -/
import Derived.Test.YtlakggidkijcnaaLocksP
import Derived.Test.YtlakggidkijcnaaOpenTry
set_option linter.all false
/- CpuLocks: the row. -/
namespace Go.Proofs.Ytlakggidkijcnaa
open Go.LE Go.Gen.Try Go.ChangeShapes Go.WideShapes Go.ChangeAt Go.RowKit

theorem len6 : Try.f6.params.toList.length = 4 := by rw [Try.params6]; rfl

set_option maxRecDepth 100000 in
theorem cpuLocks_lifted (os : Os) (started : os.Started) (H : Type) (enc : TypeId × Value → H) :
    ReturnsInHanded {} Try.checked os 6 .any (Rows.cpuLocksSpec.pre6 enc Try.prog Try.f6 Rows.cpuLocksRow.domain false) (Rows.cpuLocksSpec.post enc Try.prog Try.f6 false true false false) := by
  refine returnsInHanded_of_change (C := Try.checked) own started (by kernel_rfl) Try.func6
    (ChangeSpec.witness6 (enc := enc) (C := Try.checked) false ⟨#[], #[T_api_Regs.v ⟨0, 0, 0, 0, 0, 0, 0, 0, 0, 0⟩, .int .u8 0, .bool false, .slice none 0 0], []⟩ 8 (by kernel_rfl) (by kernel_rfl) (by kernel_rfl) (by kernel_rfl)) ?_
  intro W base args ds gs before hval hW _ _
  refine law_contract (fn := Try.f6) (tb := 4) laidOut (by kernel_rfl) rfl Try.underlying4 rfl (fun ds hl => spec4 (fun _ _ _ _ => rfl) ds (hl.trans len6)) ?_ W base args ds gs before hval hW
  intro W base args ds p hval hA _
  rw [Try.params6] at hA hval
  obtain ⟨v0, v1, v2, v3, d0, d1, d2, d3, p0, p1, p2, p3, hargs, rfl, rfl, h0, h1, h2, h3⟩ := trodAll_four hA
  subst hargs
  obtain ⟨r, rfl, hR⟩ := open_regs (hval 0 24 v0 rfl rfl) h0
  obtain ⟨b, rfl, rfl, rfl, wb⟩ := open_int Try.underlying5 (hval 1 5 v1 rfl rfl) h1
  obtain ⟨ime, rfl, rfl, rfl⟩ := open_bool Try.underlying4 (hval 2 4 v2 rfl rfl) h2
  obtain ⟨L, A, hA1, hA2, hA3, hn, hQ⟩ := open_arg (cf := T_whirligiglaw22_Came.cells) 3 Try.underlying40 lvs43 cells43 (fun _ => rfl) came_of (hval 3 40 v3 rfl rfl) h3
  have hl := c6.ok (r, b, ime, A.own, none, L) true (locks r b ime A.own none L (byte_of wb) hn)
  have e1 : (J6 (r, b, ime, A.own, none, L)).map (·.1) = [A].map Arg.blk := by
    show [Sl.live ⟨List.flatMap T_whirligiglaw22_Came.cells L, A.own, none⟩] = [Sl.live ⟨A.vals, A.own, none⟩]
    rw [hA1]
  have e2 : LCalls Try.prog 6 (A6 (r, b, ime, A.own, none, L)) ([A].map Arg.blk) (.bool true) ((H6 (r, b, ime, A.own, none, L) true).map (·.1)) := by rw [← e1]; exact hl
  have h4 := calls_args [A] e2 (by kernel_rfl)
  have e3 : (A6 (r, b, ime, A.own, none, L)).map (tr ([A].map (·.loc))) = [r.v, .int .u8 b, .bool ime, v3] := by
    have : tr ([A].map (·.loc)) (.slice (some ⟨0, 0, none⟩) L.length 0) = v3 := by
      rw [← hA3, ← hA2]
      exact Arg.tr (A := [A]) (i := 0) rfl
    show [tr _ r.v, tr _ (.int .u8 b), tr _ (.bool ime), tr _ (.slice (some ⟨0, 0, none⟩) L.length 0)] = _
    rw [this]
    rfl
  rw [e3] at h4
  exact h4

theorem cpuLocks_holds : Rows.CpuLocksSaid :=
  OpenClaim.holds_of_wide 6 Try.f6 rfl rfl rfl rfl rfl rfl rfl ⟨rfl, rfl, rfl, rfl, rfl⟩ rfl rfl rfl rfl rfl (by kernel_rfl) Try.func6 (by kernel_rfl)
    (of_decide_eq_true (by kernel_rfl)) (by unfold Func.isWrapper; first | (rw [if_pos (by decide +kernel)]; kernel_rfl) | (rw [if_neg (by decide +kernel)]; exact ⟨rfl, rfl⟩))
    (fun os started H enc _ => cpuLocks_lifted os started H enc)
#print axioms cpuLocks_holds
end Go.Proofs.Ytlakggidkijcnaa
