import Derived.Test.YtlakggidkijcnaaIrq
import Derived.Test.YtlakggidkijcnaaLeU
set_option linter.all false
namespace Go.Gen.Try
open Go Go.LE Go.RowKit

theorem inv_nil {base : Nat} {ρ : Rho} {w w' : World} (hi : Inv base [] ρ w) (hb : Below w.heap.size w w') : Moves base [] ρ w [] ρ w' where
  born := fun _ h => h
  ext := fun _ _ => rfl
  inv :=
    { len := hi.len
      base_le := Nat.le_trans hi.base_le hb.size
      blk := fun i b h => by simp at h
      apart := fun i j bi bj li lj _ h => by simp at h }
  os := hb.os
  tape := hb.tape
  output := hb.output
  size := hb.size
  keep := fun k hk _ => hb.block k hk
  new := fun k h => .inl h
  grow := fun i b' h => by simp at h
  len := Nat.le_refl _

theorem irq_first_l (p : Int) : LCalls Go.Proofs.Try.prog 39 [.int .u8 p] [] (.tuple ⟨[.int .i64 (Go.Proofs.firstOf (Go.Proofs.irqTo p 5)).1, .bool (Go.Proofs.firstOf (Go.Proofs.irqTo p 5)).2]⟩) [] := by
  intro base ρ w hi _
  refine Calls.mono (callsIn_wide.1 (Go.Proofs.irq_first Fence.wide 3 trivial trivial trivial rfl (Nat.le_refl _) p w)) ?_
  rintro e w' ⟨rfl, hb⟩
  exact ⟨ρ, inv_nil hi hb, rfl, rfl⟩
end Go.Gen.Try
