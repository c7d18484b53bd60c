import Derived.Test.YtlakggidkijcnaaG3
import Derived.Laws.BitsLemmas
set_option linter.all false
set_option linter.all false
namespace Go.Gen.Try
open Go Go.LE
theorem i64_mask (n : Int) (m : Nat) (hm : m ≤ 8) : bits .and .i64 n ((2 ^ m - 1 : Nat) : Int) = n % ((2 ^ m : Nat) : Int) := by
  have h127 : (BitVec.ofInt 64 ((2 ^ m - 1 : Nat) : Int)).toNat = 2 ^ m - 1 := by
    rw [BitVec.toNat_ofInt]
    have : 2 ^ m ≤ 2 ^ 8 := Nat.pow_le_pow_right (by decide) hm
    omega
  have key : (BitVec.ofInt 64 n &&& BitVec.ofInt 64 ((2 ^ m - 1 : Nat) : Int)).toNat = (n % ((2 ^ 64 : Nat) : Int)).toNat % 2 ^ m := by
    rw [BitVec.toNat_and, BitVec.toNat_ofInt, h127, Nat.and_two_pow_sub_one_eq_mod]
  show IntKind.i64.wrap ((BitVec.ofInt 64 n &&& BitVec.ofInt 64 ((2 ^ m - 1 : Nat) : Int)).toNat : Nat) = n % ((2 ^ m : Nat) : Int)
  rw [key, IntKind.wrap_i64]
  rcases m with _ | _ | _ | _ | _ | _ | _ | _ | _ | m <;> omega
theorem u8_mask (n : Int) (m : Nat) (hm : m ≤ 8) : bits .and .u8 n ((2 ^ m - 1 : Nat) : Int) = n % ((2 ^ m : Nat) : Int) := by
  have h127 : (BitVec.ofInt 8 ((2 ^ m - 1 : Nat) : Int)).toNat = 2 ^ m - 1 := by
    rw [BitVec.toNat_ofInt]
    have : 2 ^ m ≤ 2 ^ 8 := Nat.pow_le_pow_right (by decide) hm
    omega
  have key : (BitVec.ofInt 8 n &&& BitVec.ofInt 8 ((2 ^ m - 1 : Nat) : Int)).toNat = (n % ((2 ^ 8 : Nat) : Int)).toNat % 2 ^ m := by
    rw [BitVec.toNat_and, BitVec.toNat_ofInt, h127, Nat.and_two_pow_sub_one_eq_mod]
  show IntKind.u8.wrap ((BitVec.ofInt 8 n &&& BitVec.ofInt 8 ((2 ^ m - 1 : Nat) : Int)).toNat : Nat) = n % ((2 ^ m : Nat) : Int)
  rw [key, IntKind.wrap_u8]
  rcases m with _ | _ | _ | _ | _ | _ | _ | _ | _ | m <;> omega
theorem i64_and3 (n : Int) : bits .and .i64 n 3 = n % 4 := i64_mask n 2 (by decide)
theorem i64_and7 (n : Int) : bits .and .i64 n 7 = n % 8 := i64_mask n 3 (by decide)
theorem u8_and7' (n : Int) : bits .and .u8 n 7 = n % 8 := u8_mask n 3 (by decide)
theorem u8_and15 (n : Int) : bits .and .u8 n 15 = n % 16 := u8_mask n 4 (by decide)
theorem u8_and31' (n : Int) : bits .and .u8 n 31 = n % 32 := u8_mask n 5 (by decide)
theorem u8_and1 (n : Int) : bits .and .u8 n 1 = n % 2 := u8_mask n 1 (by decide)
theorem fdiv64 (n : Int) : Int.fdiv n 64 = n / 64 := Int.fdiv_eq_ediv_of_nonneg n (by decide)
theorem fdiv8 (n : Int) : Int.fdiv n 8 = n / 8 := Int.fdiv_eq_ediv_of_nonneg n (by decide)
theorem getD_is {α : Type} [Inhabited α] {o : Option α} {Q : α → Prop} (h : ∃ y, o = some y ∧ Q y) : o = some (o.getD default) := by
  obtain ⟨y, rfl, _⟩ := h
  rfl
theorem v94 (n : Int) : f94 n = if n < 0 ∨ 7 < n then 1 else if n = 6 then 7 else 0 := by
  have : f94 n = bif decide (n < 0) then 1 else bif decide (n > 7) then 1 else bif n == 6 then 7 else 0 := rfl
  rw [this]
  by_cases h1 : n < 0
  · simp [h1]
  · by_cases h2 : n > 7
    · simp [h1, h2]
    · simp only [h1, h2, decide_false, cond_false, false_or, if_false]
      cases h : n == 6 <;> simp_all
theorem v92 (n : Int) : f92 n = if n = 4 then (7, 6) else (IntKind.i64.wrap (2 * n), IntKind.i64.wrap (IntKind.i64.wrap (2 * n) + 1)) := by
  have : f92 n = bif n == 4 then (7, 6) else (IntKind.i64.wrap (2 * n), IntKind.i64.wrap (IntKind.i64.wrap (2 * n) + 1)) := rfl
  rw [this]
  cases h : n == 4 <;> simp_all
end Go.Gen.Try
namespace Go.Gen.Try
open Go Go.LE
theorem getD_q {α : Type} [Inhabited α] {o : Option α} {Q : α → Prop} (h : ∃ y, o = some y ∧ Q y) : Q (o.getD default) := by
  obtain ⟨y, rfl, q⟩ := h
  exact q
theorem range_all {n : Nat} {p : Nat → Bool} (h : (List.range n).all p = true) {i : Nat} (hi : i < n) : p i = true := List.all_eq_true.1 h i (List.mem_range.2 hi)
theorem byte_nat {x : Int} (h : 0 ≤ x ∧ x ≤ 255) : ∃ i : Nat, x = (i : Int) ∧ i < 256 := ⟨x.toNat, by omega, by omega⟩
theorem some_is {α : Type} [Inhabited α] {o : Option α} (h : o.isSome = true) : o = some (o.getD default) := by
  cases o with
  | none => cases h
  | some y => rfl
noncomputable def t15 (x : Int) : T_api_Form := (F15 x).getD default
noncomputable def t16 (x : Int) : T_api_Form := (F16 x).getD default
noncomputable def t41 (x : Int × Bool × Bool) : Option (T_api_Micro × List T_api_Micro) := (F41 x).getD default
theorem all15 : (List.range 256).all (fun i => (F15 (i : Int)).isSome) = true := by kernel_rfl
theorem all16 : (List.range 256).all (fun i => (F16 (i : Int)).isSome) = true := by kernel_rfl
theorem all41 (cb t : Bool) : (List.range 256).all (fun i => (F41 ((i : Int), cb, t)).isSome) = true := by
  cases cb <;> cases t
  · exact Eq.trans (by kernel_rfl) rfl
  · exact Eq.trans (by kernel_rfl) rfl
  · exact Eq.trans (by kernel_rfl) rfl
  · exact Eq.trans (by kernel_rfl) rfl
theorem E15 (x : X15) (h0 : (0 : Int) ≤ x ∧ x ≤ (255 : Int)) : F15 x = some (t15 x) := by
  obtain ⟨i, rfl, hi⟩ := byte_nat h0
  exact some_is (range_all all15 hi)
theorem E16 (x : X16) (h0 : (0 : Int) ≤ x ∧ x ≤ (255 : Int)) : F16 x = some (t16 x) := by
  obtain ⟨i, rfl, hi⟩ := byte_nat h0
  exact some_is (range_all all16 hi)
theorem E41 (x : X41) (h0 : (0 : Int) ≤ x.1 ∧ x.1 ≤ (255 : Int)) : F41 x = some (t41 x) := by
  obtain ⟨o, cb, t⟩ := x
  obtain ⟨i, rfl, hi⟩ := byte_nat h0
  exact some_is (range_all (all41 cb t) hi)
end Go.Gen.Try
