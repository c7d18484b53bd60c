import Derived.Test.YtlakggidkijcnaaE3
set_option linter.all false
set_option linter.all false
/- The low bits of F. -/
namespace Go.Gen.Try
open Go Go.LE

def low (F : Int) : Prop := F % 16 = 0
theorem low0 : low 0 := rfl
theorem L81 (x : X81) : low (f81 x).F := by
  have h : (f81 x).F = f107 x.2 := rfl
  have hk : ∀ Z N H C : Bool, f107 ⟨Z, N, H, C⟩ % 16 = 0 := by
    intro Z N H C
    cases Z <;> cases N <;> cases H <;> cases C <;> rfl
  rw [h]
  exact hk x.2.Z x.2.N x.2.H x.2.C
theorem stI_no (i k : Nat) (v a : Int) (h : i ≠ k) : stI i k v a = a := by
  unfold stI
  rw [show Nat.beq i k = false from Bool.eq_false_iff.2 (fun h' => h (Nat.eq_of_beq_eq_true h'))]
  rfl
theorem low16 (w : Int) : low (IntKind.wrap .u8 (bits .andNot .u16 w 15)) := by
  have e : bits .andNot .u16 w 15 = IntKind.wrap .u16 ((BitVec.ofInt 16 w &&& ~~~ BitVec.ofInt 16 15).toNat : Nat) := rfl
  have h : (BitVec.ofInt 16 w &&& ~~~ BitVec.ofInt 16 15).toNat % 16 = 0 := by
    rw [BitVec.toNat_and, show (16 : Nat) = 2 ^ 4 from rfl, Nat.and_mod_two_pow, show (~~~ BitVec.ofInt 16 15).toNat % 2 ^ 4 = 0 from rfl, Nat.and_zero]
  rw [e]
  unfold low
  have w8 : ∀ y : Int, IntKind.wrap .u8 y = y % 256 := fun y => by simp [IntKind.wrap, IntKind.bits, IntKind.signed]
  have w16 : ∀ y : Int, IntKind.wrap .u16 y = y % 65536 := fun y => by simp [IntKind.wrap, IntKind.bits, IntKind.signed]
  rw [w8, w16]
  omega
attribute [irreducible] low
theorem DL103 (x : X103) : (G103 x).wp (fun y => low x.1.F → low y.1.F) := by
  simp [G103, Gd.wp, Gd.k, Gd.z, Gd.zl, Gd.ix, Gd.ia, Gd.lx, Gd.sx, Gd.rx, Gd.q, Gd.ae, Gd.le, Gd.lf, Gd.li, Gd.ap, Gd.al]
  rw [v94]
  by_cases c1 : x.2.1 < 0 ∨ 7 < x.2.1
  · rw [if_pos c1]; exact ⟨fun _ _ => low0, fun h => absurd h (by decide)⟩
  · rw [if_neg c1]
    by_cases c2 : x.2.1 = 6
    · rw [if_pos c2]; exact ⟨fun _ _ => low0, fun h => absurd h (by decide)⟩
    · rw [if_neg c2]
      refine ⟨fun h => absurd rfl h, fun _ => ⟨by omega, by omega, fun hl => ?_⟩⟩
      show low (stI _ 6 x.2.2 x.1.F)
      rw [stI_no _ _ _ _ (by omega)]
      exact hl
theorem L103 (x : X103) : low x.1.F → low (t103 x).1.F := getD_q (Gd.wp_ok (DL103 x))
theorem DL70 (x : X70) : (G70 x).wp (fun y => (low x.1.F → low y.1.F) ∧ (x.2.1 = 2 → y.1.F = x.1.F)) := by
  simp [G70, Gd.wp, Gd.k, Gd.z, Gd.zl, Gd.ix, Gd.ia, Gd.lx, Gd.sx, Gd.rx, Gd.q, Gd.ae, Gd.le, Gd.lf, Gd.li, Gd.ap, Gd.al]
  refine ⟨fun _ => ⟨fun _ => low0, fun h => by omega⟩, fun _ => ⟨fun _ => ⟨fun _ => low0, fun h => by omega⟩, fun _ _ => ⟨fun h4 => ?_, fun h4 => ?_⟩⟩⟩
  · have e : f92 x.2.1 = (7, 6) := by rw [v92, if_pos h4]
    simp only [e]
    exact ⟨⟨by decide, by decide⟩, by decide, ⟨by decide, by decide⟩, by decide, fun _ => low16 x.2.2, fun h => by omega⟩
  · have hn : x.2.1 = 0 ∨ x.2.1 = 1 ∨ x.2.1 = 2 := by omega
    rcases hn with hn | hn | hn
    · have e : f92 x.2.1 = (0, 1) := by rw [hn]; rfl
      simp only [e]
      exact ⟨⟨by decide, by decide⟩, by decide, ⟨by decide, by decide⟩, by decide, fun h => h, fun _ => rfl⟩
    · have e : f92 x.2.1 = (2, 3) := by rw [hn]; rfl
      simp only [e]
      exact ⟨⟨by decide, by decide⟩, by decide, ⟨by decide, by decide⟩, by decide, fun h => h, fun _ => rfl⟩
    · have e : f92 x.2.1 = (4, 5) := by rw [hn]; rfl
      simp only [e]
      exact ⟨⟨by decide, by decide⟩, by decide, ⟨by decide, by decide⟩, by decide, fun h => h, fun _ => rfl⟩
theorem L70 (x : X70) : (low x.1.F → low (t70 x).1.F) ∧ (x.2.1 = 2 → (t70 x).1.F = x.1.F) := getD_q (Q := fun y : Y70 => (low x.1.F → low y.1.F) ∧ (x.2.1 = 2 → y.1.F = x.1.F)) (Gd.wp_ok (DL70 x))
theorem DL49 (x : X49) : (G49 x).wp (fun y => (low x.1.Cpu.R.F → low y.Cpu.R.F) ∧ (x.2.1 = 2 → y.Cpu.R.F = x.1.Cpu.R.F)) := by
  simp [G49, Gd.wp, Gd.k, Gd.z, E70]
  exact L70 (x.1.Cpu.R, x.2.1, x.2.2)
theorem L49 (x : X49) : (low x.1.Cpu.R.F → low (t49 x).Cpu.R.F) ∧ (x.2.1 = 2 → (t49 x).Cpu.R.F = x.1.Cpu.R.F) := getD_q (Q := fun y : Y49 => (low x.1.Cpu.R.F → low y.Cpu.R.F) ∧ (x.2.1 = 2 → y.Cpu.R.F = x.1.Cpu.R.F)) (Gd.wp_ok (DL49 x))
theorem DL71 (x : X71) : (G71 x).wp (fun y => low x.1.Cpu.R.F → low y.Cpu.R.F) := by
  simp [G71, Gd.wp, Gd.k, Gd.z, E103]
  exact fun _ => L103 (x.1.Cpu.R, x.2.1, x.2.2)
theorem L71 (x : X71) : low x.1.Cpu.R.F → low (t71 x).Cpu.R.F := getD_q (Gd.wp_ok (DL71 x))
theorem DL50 (x : X50) : (G50 x).wp (fun y => low x.1.Cpu.R.F → low y.Cpu.R.F) := by
  simp [G50, Gd.wp, Gd.k, Gd.z, E43, E46, E49, E71]
  (repeat' (first | (intro _) | (apply And.intro))) <;> first | trivial | assumption | (refine (L49 _).1 ?_; assumption) | (refine L71 _ ?_; assumption)
theorem L50 (x : X50) : low x.1.Cpu.R.F → low (t50 x).Cpu.R.F := getD_q (Gd.wp_ok (DL50 x))
theorem DL51 (x : X51) : (G51 x).wp (fun y => low x.1.Cpu.R.F → low y.Cpu.R.F) := by
  simp [G51, Gd.wp, Gd.k, Gd.z, E43]
  intro _ _ h; omega
theorem L51 (x : X51) : low x.1.Cpu.R.F → low (t51 x).Cpu.R.F := getD_q (Gd.wp_ok (DL51 x))
theorem DL80 (x : X80) : (G80 x).wp (fun y => low x.1.Cpu.R.F → low y.2.1.Cpu.R.F) := by
  simp [G80, Gd.wp, Gd.k, Gd.z, E43, E49]
  (repeat' (first | (intro _) | (apply And.intro))) <;> first | trivial | assumption | (refine (L49 _).1 ?_; assumption) | (refine L71 _ ?_; assumption)
theorem L80 (x : X80) : low x.1.Cpu.R.F → low (t80 x).2.1.Cpu.R.F := getD_q (Gd.wp_ok (DL80 x))
theorem DL52 (x : X52) : (G52 x).wp (fun y => low x.1.Cpu.R.F → low y.Cpu.R.F) := by
  simp [G52, Gd.wp, Gd.k, Gd.z, E46, E47, E71, E74, E75, E80, L81]
  (repeat' (first | (intro _) | (apply And.intro))) <;> first | trivial | assumption | (refine L71 _ ?_; assumption) | (refine L80 _ ?_; assumption)
theorem L52 (x : X52) : low x.1.Cpu.R.F → low (t52 x).Cpu.R.F := getD_q (Gd.wp_ok (DL52 x))
theorem DL31 (x : X31) (h0 : (0 : Int) ≤ x.1.Cpu.Op ∧ x.1.Cpu.Op ≤ (255 : Int)) : (G31 x).wp (fun y => low x.1.Cpu.R.F → low y.Cpu.R.F) := by
  simp [G31, Gd.wp, Gd.k, Gd.z, E45, E50, E51, E52, h0]
  (repeat' (first | (intro _) | (apply And.intro))) <;> first | trivial | assumption | (refine L50 _ ?_; assumption) | (refine L51 _ ?_; assumption) | (refine L52 _ ?_; assumption)
theorem L31 (x : X31) (h0 : (0 : Int) ≤ x.1.Cpu.Op ∧ x.1.Cpu.Op ≤ (255 : Int)) : low x.1.Cpu.R.F → low (t31 x).Cpu.R.F := getD_q (Gd.wp_ok (DL31 x h0))
theorem DL30 (x : X30) (h0 : (0 : Int) ≤ x.1.Cpu.Op ∧ x.1.Cpu.Op ≤ (255 : Int)) : (G30 x).wp (fun y => y.Cpu.R.F = x.1.Cpu.R.F) := by
  simp [G30, Gd.wp, Gd.k, Gd.z, E24, E43, E49, h0, (L49 _).2]
theorem L30 (x : X30) (h0 : (0 : Int) ≤ x.1.Cpu.Op ∧ x.1.Cpu.Op ≤ (255 : Int)) : (t30 x).Cpu.R.F = x.1.Cpu.R.F := getD_q (Q := fun y : Y30 => y.Cpu.R.F = x.1.Cpu.R.F) (Gd.wp_ok (DL30 x h0))
end Go.Gen.Try
