import Derived.Test.YtlakggidkijcnaaG3
import Derived.Test.YtlakggidkijcnaaLeZ
import Derived.Test.YtlakggidkijcnaaRows
set_option linter.all false
/- The arguments of the laws of this seat, opened. -/
namespace Go.Proofs.Ytlakggidkijcnaa
open Go.LE Go.Gen.Try Go.ChangeShapes Go.WideShapes Go.ChangeAt Go.RowKit

theorem own : ownKnob Try.prog.godebug = none := by kernel_rfl
theorem laidOut : laidOutB Try.prog = true := by kernel_rfl
theorem lvs24 : lvs Try.prog 3 24 = some [some .u8, some .u8, some .u8, some .u8, some .u8, some .u8, some .u8, some .u8, some .u16, some .u16] := by kernel_rfl
theorem cells24 : Try.prog.cellsOf 24 = [some IntKind.u8, some .u8, some .u8, some .u8, some .u8, some .u8, some .u8, some .u8, some .u16, some .u16].length := by kernel_rfl
theorem lvs43 : lvs Try.prog 3 43 = some [some .u8, some .u8] := by kernel_rfl
theorem cells43 : Try.prog.cellsOf 43 = [some IntKind.u8, some .u8].length := by kernel_rfl
theorem lvs5 : lvs Try.prog 3 5 = some [some .u8] := by kernel_rfl
theorem cells5 : Try.prog.cellsOf 5 = [some IntKind.u8].length := by kernel_rfl

def byte (x : Int) : Prop := 0 ≤ x ∧ x ≤ 255
def two (x : Int) : Prop := 0 ≤ x ∧ x ≤ 65535
/-- Registers that are numbers of their kinds. -/
def okR (r : T_api_Regs) : Prop := byte r.A ∧ byte r.F ∧ byte r.B ∧ byte r.C ∧ byte r.D ∧ byte r.E ∧ byte r.H ∧ byte r.L ∧ two r.SP ∧ two r.PC
theorem byte_of {n : Int} (h : (Lit.int .u8 n).wf = true) : byte n := by
  simp only [Lit.wf, Bool.and_eq_true, decide_eq_true_eq] at h
  exact h
theorem two_of {n : Int} (h : (Lit.int .u16 n).wf = true) : two n := by
  simp only [Lit.wf, Bool.and_eq_true, decide_eq_true_eq] at h
  exact h

set_option maxRecDepth 100000 in
/-- Registers as they come in. -/
theorem open_regs {H : Type} {enc : TypeId × Value → H} {W : World} {b0 base : Nat} {sp : Nat → Bool} {held : Bool} {r : Reach} {v : Value} {d : DataW H} {p : List MemPlace} (hv : Value.okWide Try.prog W r b0 24 v) (h : DataW.Trod enc Try.prog W base sp held 24 v d p) :
    ∃ r : T_api_Regs, v = r.v ∧ okR r := by
  obtain ⟨cs, rfl, hl⟩ := open_leaves 3 lvs24 Try.underlying24 cells24 hv h
  obtain ⟨A, _, rfl, wA, hl⟩ := lv_int hl
  obtain ⟨F, _, rfl, wF, hl⟩ := lv_int hl
  obtain ⟨B, _, rfl, wB, hl⟩ := lv_int hl
  obtain ⟨C, _, rfl, wC, hl⟩ := lv_int hl
  obtain ⟨D, _, rfl, wD, hl⟩ := lv_int hl
  obtain ⟨E, _, rfl, wE, hl⟩ := lv_int hl
  obtain ⟨Hh, _, rfl, wH, hl⟩ := lv_int hl
  obtain ⟨L, _, rfl, wL, hl⟩ := lv_int hl
  obtain ⟨SP, _, rfl, wS, hl⟩ := lv_int hl
  obtain ⟨PC, _, rfl, wP, hl⟩ := lv_int hl
  obtain rfl := lv_nil hl
  exact ⟨⟨A, F, B, C, D, E, Hh, L, SP, PC⟩, rfl, byte_of wA, byte_of wF, byte_of wB, byte_of wC, byte_of wD, byte_of wE, byte_of wH, byte_of wL, two_of wS, two_of wP⟩

theorem came_of (c : List Value) (h : AllLv [some .u8, some .u8] c) : ∃ x : T_whirligiglaw22_Came, x.cells = c ∧ (byte x.Data ∧ byte x.Pending) := by
  obtain ⟨A, _, rfl, wA, h⟩ := lv_int h
  obtain ⟨B, _, rfl, wB, h⟩ := lv_int h
  obtain rfl := lv_nil h
  exact ⟨⟨A, B⟩, rfl, byte_of wA, byte_of wB⟩
theorem byte_cell (c : List Value) (h : AllLv [some .u8] c) : ∃ x : Int, uc .u8 x = c ∧ byte x := by
  obtain ⟨A, _, rfl, wA, h⟩ := lv_int h
  obtain rfl := lv_nil h
  exact ⟨A, rfl, byte_of wA⟩

theorem spec2 {H : Type} {fn : List (DataW H) → Left H} (h : ∀ a b, fn [a, b] = { results := [.lit (.bool true)], args := [a, b] }) (ds : List (DataW H)) (hl : ds.length = 2) : (fn ds).results = [.lit (.bool true)] ∧ (fn ds).args = ds ∧ (fn ds).vars = [] := by
  match ds, hl with
  | [a, b], _ => rw [h]; exact ⟨rfl, rfl, rfl⟩
theorem spec3 {H : Type} {fn : List (DataW H) → Left H} (h : ∀ a b c, fn [a, b, c] = { results := [.lit (.bool true)], args := [a, b, c] }) (ds : List (DataW H)) (hl : ds.length = 3) : (fn ds).results = [.lit (.bool true)] ∧ (fn ds).args = ds ∧ (fn ds).vars = [] := by
  match ds, hl with
  | [a, b, c], _ => rw [h]; exact ⟨rfl, rfl, rfl⟩
theorem spec4 {H : Type} {fn : List (DataW H) → Left H} (h : ∀ a b c d, fn [a, b, c, d] = { results := [.lit (.bool true)], args := [a, b, c, d] }) (ds : List (DataW H)) (hl : ds.length = 4) : (fn ds).results = [.lit (.bool true)] ∧ (fn ds).args = ds ∧ (fn ds).vars = [] := by
  match ds, hl with
  | [a, b, c, d], _ => rw [h]; exact ⟨rfl, rfl, rfl⟩
end Go.Proofs.Ytlakggidkijcnaa
