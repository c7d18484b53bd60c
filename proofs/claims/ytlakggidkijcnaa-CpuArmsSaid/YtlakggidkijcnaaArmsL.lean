/- CpuArms answers true for every input: what EI lets in comes behind the instruction behind it, and DI there lets nothing in; no condition. -/
import Derived.Test.YtlakggidkijcnaaArmsP
import Derived.Test.YtlakggidkijcnaaLeZ
import Derived.Test.YtlakggidkijcnaaRows
set_option linter.all false
/- CpuArms: the row. -/
namespace Go.Proofs.Ytlakggidkijcnaa
open Go.LE Go.Gen.Try Go.ChangeShapes Go.WideShapes Go.ChangeAt Go.RowKit

theorem own : ownKnob Try.prog.godebug = none := by kernel_rfl
theorem laidOut : laidOutB Try.prog = true := by kernel_rfl
theorem lvs24 : lvs Try.prog 3 24 = some [some .u8, some .u8, some .u8, some .u8, some .u8, some .u8, some .u8, some .u8, some .u16, some .u16] := by kernel_rfl

theorem cells24 : Try.prog.cellsOf 24 = [some IntKind.u8, some .u8, some .u8, some .u8, some .u8, some .u8, some .u8, some .u8, some .u16, some .u16].length := by kernel_rfl

set_option maxRecDepth 100000 in
/-- Registers as they come in. -/
theorem open_regs {H : Type} {enc : TypeId × Value → H} {W : World} {b0 base : Nat} {sp : Nat → Bool} {held : Bool} {r : Reach} {v : Value} {d : DataW H} {p : List MemPlace} (hv : Value.okWide Try.prog W r b0 24 v) (h : DataW.Trod enc Try.prog W base sp held 24 v d p) :
    ∃ r : T_api_Regs, v = r.v ∧ (0 ≤ r.F ∧ r.F ≤ 255) := by
  obtain ⟨cs, rfl, hl⟩ := open_leaves 3 lvs24 Try.underlying24 cells24 hv h
  obtain ⟨A, _, rfl, _, hl⟩ := lv_int hl
  obtain ⟨F, _, rfl, wF, hl⟩ := lv_int hl
  obtain ⟨B, _, rfl, _, hl⟩ := lv_int hl
  obtain ⟨C, _, rfl, _, hl⟩ := lv_int hl
  obtain ⟨D, _, rfl, _, hl⟩ := lv_int hl
  obtain ⟨E, _, rfl, _, hl⟩ := lv_int hl
  obtain ⟨Hh, _, rfl, _, hl⟩ := lv_int hl
  obtain ⟨L, _, rfl, _, hl⟩ := lv_int hl
  obtain ⟨SP, _, rfl, _, hl⟩ := lv_int hl
  obtain ⟨PC, _, rfl, _, hl⟩ := lv_int hl
  obtain rfl := lv_nil hl
  simp only [Lit.wf, Bool.and_eq_true, decide_eq_true_eq] at wF
  exact ⟨⟨A, F, B, C, D, E, Hh, L, SP, PC⟩, rfl, wF⟩

theorem spec_len2 {H : Type} {fn : List (DataW H) → Left H} (h : ∀ a b, fn [a, b] = { results := [.lit (.bool true)], args := [a, b] }) (ds : List (DataW H)) (hl : ds.length = 2) : (fn ds).results = [.lit (.bool true)] ∧ (fn ds).args = ds ∧ (fn ds).vars = [] := by
  match ds, hl with
  | [a, b], _ => rw [h]; exact ⟨rfl, rfl, rfl⟩

theorem len5 : Try.f5.params.toList.length = 2 := by rw [Try.params5]; rfl

set_option maxRecDepth 100000 in
theorem cpuArms_lifted (os : Os) (started : os.Started) (H : Type) (enc : TypeId × Value → H) :
    ReturnsInHanded {} Try.checked os 5 .any (Rows.cpuArmsSpec.pre6 enc Try.prog Try.f5 Rows.cpuArmsRow.domain false) (Rows.cpuArmsSpec.post enc Try.prog Try.f5 false true false false) := by
  refine returnsInHanded_of_change (C := Try.checked) own started (by kernel_rfl) Try.func5
    (ChangeSpec.witness6 (enc := enc) (C := Try.checked) false ⟨#[], #[T_api_Regs.v ⟨0, 0, 0, 0, 0, 0, 0, 0, 0, 0⟩, .int .u8 0], []⟩ 8 (by kernel_rfl) (by kernel_rfl) (by kernel_rfl) (by kernel_rfl)) ?_
  intro W base args ds gs before hval hW _ _
  refine law_contract (fn := Try.f5) (tb := 4) laidOut (by kernel_rfl) rfl Try.underlying4 rfl (fun ds hl => spec_len2 (fun _ _ => rfl) ds (hl.trans len5)) ?_ W base args ds gs before hval hW
  intro W base args ds p hval hA _
  rw [Try.params5] at hA hval
  obtain ⟨v0, v1, d0, d1, p0, p1, hargs, rfl, rfl, h0, h1⟩ := trodAll_two hA
  subst hargs
  obtain ⟨r, rfl, hF⟩ := open_regs (hval 0 24 v0 rfl rfl) h0
  obtain ⟨b, rfl, rfl, rfl, wb⟩ := open_int Try.underlying5 (hval 1 5 v1 rfl rfl) h1
  simp only [Lit.wf, Bool.and_eq_true, decide_eq_true_eq] at wb
  exact calls_plain (c5.ok (r, b) true (arms r b hF wb)) (by kernel_rfl) W

theorem cpuArms_holds : Rows.CpuArmsSaid :=
  OpenClaim.holds_of_wide 5 Try.f5 rfl rfl rfl rfl rfl rfl rfl ⟨rfl, rfl, rfl, rfl, rfl⟩ rfl rfl rfl rfl rfl (by kernel_rfl) Try.func5 (by kernel_rfl)
    (of_decide_eq_true (by kernel_rfl)) (by unfold Func.isWrapper; first | (rw [if_pos (by decide +kernel)]; kernel_rfl) | (rw [if_neg (by decide +kernel)]; exact ⟨rfl, rfl⟩))
    (fun os started H enc _ => cpuArms_lifted os started H enc)
#print axioms cpuArms_holds
end Go.Proofs.Ytlakggidkijcnaa
