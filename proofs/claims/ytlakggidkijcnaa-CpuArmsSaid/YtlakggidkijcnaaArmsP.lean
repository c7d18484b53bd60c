import Derived.Test.YtlakggidkijcnaaArmsK
set_option linter.all false
/- The plain law of CpuArms. -/
namespace Go.Gen.Try
open Go Go.LE

theorem f_low {F : Int} (h0 : 0 ≤ F) (h1 : F ≤ 255) : ∃ k : Nat, k < 16 ∧ bits .andNot .u8 F 15 = bits .andNot .u8 ((16 * k : Nat) : Int) 15 := by
  obtain ⟨i, rfl, hi⟩ := byte_nat h0 h1
  have h : (List.range 256).all (fun i => bits .andNot .u8 (i : Int) 15 == bits .andNot .u8 ((16 * (i / 16) : Nat) : Int) 15) = true := by kernel_rfl
  exact ⟨i / 16, by omega, eq_of_beq (range_all h hi)⟩
theorem p_low {p : Int} (h0 : 0 ≤ p) (h1 : p ≤ 255) : ∃ q : Nat, q < 32 ∧ bits .and .u8 p 31 = bits .and .u8 (q : Int) 31 ∧ (Int.tmod p 32 == 0) = (Int.tmod (q : Int) 32 == 0) := by
  obtain ⟨i, rfl, hi⟩ := byte_nat h0 h1
  have h : (List.range 256).all (fun i => bits .and .u8 (i : Int) 31 == bits .and .u8 ((i % 32 : Nat) : Int) 31 && ((Int.tmod (i : Int) 32 == 0) == (Int.tmod ((i % 32 : Nat) : Int) 32 == 0))) = true := by kernel_rfl
  have := range_all h hi
  simp only [Bool.and_eq_true] at this
  exact ⟨i % 32, by omega, eq_of_beq this.1, eq_of_beq this.2⟩

theorem want_low {p q : Int} (h : bits .and .u8 p 31 = bits .and .u8 q 31) (c : T_api_Cpu) : F10 (c, p) = F10 (c, q) := by
  unfold F10 G10
  simp only [h]
theorem done_low {p q : Int} (h : bits .and .u8 p 31 = bits .and .u8 q 31) (c : T_api_Cpu) (d : Int) : F12 (c, d, p) = F12 (c, d, q) := by
  unfold F12 G12
  simp only [h]
theorem begun_low {r : T_api_Regs} {F : Int} (h : bits .andNot .u8 r.F 15 = bits .andNot .u8 F 15) : f9 r = f9 { r with F := F } := by
  have e : ∀ x : T_api_Regs, f9 x = T_api_Cpu.mk { x with F := bits .andNot .u8 x.F 15 } false false false 0 0 false 0 0 0 := fun _ => rfl
  rw [e, e, h]

theorem arms_p {r : T_api_Regs} {p q : Int} (h : bits .and .u8 p 31 = bits .and .u8 q 31) (ht : (Int.tmod p 32 == 0) = (Int.tmod q 32 == 0)) : F5 (r, p) = F5 (r, q) := by
  unfold F5 G5
  simp only [Gd.run, Gd.k, Gd.z, ht]
  simp only [c9, c10, c12, Con.of, ConT.of, want_low h, done_low h]

theorem arms_r {r s : T_api_Regs} {p : Int} (h : f9 r = f9 s) : F5 (r, p) = F5 (s, p) := by
  unfold F5 G5
  simp only [Gd.run, Gd.k, Gd.z]
  simp only [c9, ConT.of, h]

theorem arms (r : T_api_Regs) (p : Int) (hF : 0 ≤ r.F ∧ r.F ≤ 255) (hp : 0 ≤ p ∧ p ≤ 255) : F5 (r, p) = some true := by
  obtain ⟨q, hq, h1, h2⟩ := p_low hp.1 hp.2
  obtain ⟨k, hk, h3⟩ := f_low hF.1 hF.2
  rw [arms_p h1 h2, arms_r (begun_low h3)]
  have fin : ∀ {F : Int}, armsK F r.A r.B r.C r.D r.E r.H r.L r.SP r.PC = true → F5 ({ r with F := F }, (q : Int)) = some true := fun {F} h => by
    have := range_all h hq
    cases hx : F5 ({ r with F := F }, (q : Int)) with
    | none => rw [hx] at this; cases this
    | some b =>
      rw [hx] at this
      cases b with
      | true => rfl
      | false => cases this
  match k, hk with
  | 0, _ => exact fin (arms0 ..)
  | 1, _ => exact fin (arms1 ..)
  | 2, _ => exact fin (arms2 ..)
  | 3, _ => exact fin (arms3 ..)
  | 4, _ => exact fin (arms4 ..)
  | 5, _ => exact fin (arms5 ..)
  | 6, _ => exact fin (arms6 ..)
  | 7, _ => exact fin (arms7 ..)
  | 8, _ => exact fin (arms8 ..)
  | 9, _ => exact fin (arms9 ..)
  | 10, _ => exact fin (arms10 ..)
  | 11, _ => exact fin (arms11 ..)
  | 12, _ => exact fin (arms12 ..)
  | 13, _ => exact fin (arms13 ..)
  | 14, _ => exact fin (arms14 ..)
  | 15, _ => exact fin (arms15 ..)
  | n + 16, h => omega
end Go.Gen.Try
