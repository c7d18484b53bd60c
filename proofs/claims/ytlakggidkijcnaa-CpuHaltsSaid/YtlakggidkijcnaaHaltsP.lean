import Derived.Test.YtlakggidkijcnaaLocksP
set_option linter.all false
/- The plain law of CpuHalts. -/
namespace Go.Gen.Try
open Go Go.LE

abbrev D0 (R : T_api_Regs) (ime bug : Bool) (op : Int) : T_api_Cpu := T_api_Cpu.mk R ime false bug 0 op false 0 0 0
abbrev D1 (R : T_api_Regs) (ime : Bool) (op : Int) : T_api_Cpu := T_api_Cpu.mk R ime false false 0 op false 1 0 0
abbrev Hc (R : T_api_Regs) (ime : Bool) : T_api_Cpu := T_api_Cpu.mk R ime false false 1 118 false 0 0 0

theorem halt_plan : ((t41 (118, false, true)).isNone && (t41 (118, false, false)).isNone && (t41 (0, false, true)).isNone && (t41 (0, false, false)).isNone) = true := by kernel_rfl

theorem plain_cycle (R : T_api_Regs) (ime : Bool) (op : Int) (h : op = 118 ∨ op = 0) : F24 ⟨D1 R ime op⟩ = some (⟨0, 0, 0⟩, false) := by
  have hp := halt_plan
  simp only [Bool.and_eq_true, Option.isNone_iff_eq_none] at hp
  obtain ⟨⟨⟨p1, p2⟩, p3⟩, p4⟩ := hp
  have hd : (0 : Int) ≤ op ∧ op ≤ 255 := by omega
  have e42 := E42 ⟨D1 R ime op⟩ hd
  have e41 := E41 (op, false, t42 ⟨D1 R ime op⟩) hd
  have e41' : t41 (op, false, t42 ⟨D1 R ime op⟩) = none := by
    rcases h with rfl | rfl
    · cases t42 ⟨D1 R ime 118⟩
      · exact p2
      · exact p1
    · cases t42 ⟨D1 R ime 0⟩
      · exact p4
      · exact p3
  rw [e41'] at e41
  have e40 : f40 ⟨D1 R ime op⟩ = false := by
    rcases h with rfl | rfl <;> rfl
  unfold F24 G24
  simp [Gd.run, Gd.k, Gd.z, e40, selB, e42, e41, IntKind.wrap_i64]

theorem halt_end (R : T_api_Regs) (ime : Bool) (p : Int) : F31 (⟨D1 R ime 118⟩, p) = some ⟨bif (!ime && p != 0) then { D1 R ime 118 with Step := 0, Bug := true } else Hc R ime⟩ := by
  have e45 : F45 ⟨D1 R ime 118⟩ = F45 ⟨D1 R true 118⟩ := rfl
  cases ime
  · have : F31 (⟨D1 R false 118⟩, p) = bif p != 0 then some ⟨{ D1 R false 118 with Step := 0, Bug := true }⟩ else some ⟨Hc R false⟩ := by kernel_rfl
    rw [this]; cases p != 0 <;> rfl
  · have : F31 (⟨D1 R true 118⟩, p) = some ⟨Hc R true⟩ := by kernel_rfl
    exact this

theorem halt_fetch (R : T_api_Regs) (ime : Bool) (p : Int) : F12 (D0 R ime false 0, 118, p) = some (bif (!ime && bits .and .u8 p 31 != 0) then { D1 { R with PC := IntKind.wrap .u16 (R.PC + 1) } ime 118 with Step := 0, Bug := true } else Hc { R with PC := IntKind.wrap .u16 (R.PC + 1) } ime) := by
  have e27 : f27 ⟨D0 R ime false 0⟩ = false := rfl
  have e20 : F20 ⟨D0 R ime false 0⟩ = some false := by kernel_rfl
  have e29 : f29 (⟨D0 R ime false 0⟩, 118) = ⟨D1 { R with PC := IntKind.wrap .u16 (R.PC + 1) } ime 118⟩ := rfl
  unfold F12 G12
  simp only [Gd.run, Gd.k, Gd.z, e27, e20, e29, cond_false, cond_true, Option.bind_some, Bool.not_false]
  simp only [show ((0 : Int) == 4) = false from rfl, cond_false, plain_cycle _ ime 118 (.inl rfl), Option.bind_some, halt_end, Bool.not_false, cond_true]

theorem nop_end (R : T_api_Regs) (p : Int) : F31 (⟨D1 R false 0⟩, p) = some ⟨{ D1 R false 0 with Step := 0 }⟩ := by kernel_rfl
theorem nop_bug (R : T_api_Regs) : F12 (D0 R false true 118, 0, 0) = some { D1 R false 0 with Step := 0 } := by
  have e27 : f27 ⟨D0 R false true 118⟩ = false := rfl
  have e20 : F20 ⟨D0 R false true 118⟩ = some false := by kernel_rfl
  have e29 : f29 (⟨D0 R false true 118⟩, 0) = ⟨D1 R false 0⟩ := rfl
  unfold F12 G12
  simp only [Gd.run, Gd.k, Gd.z, e27, e20, e29, cond_false, cond_true, Option.bind_some, Bool.not_false]
  simp only [show ((0 : Int) == 4) = false from rfl, cond_false, plain_cycle _ false 0 (.inr rfl), Option.bind_some, nop_end, Bool.not_false, cond_true]

theorem bug_want (R : T_api_Regs) (p : Int) : F10 (D0 R false true 118, p) = some (D0 R false true 118, ⟨1, R.PC, 0⟩, -1) := by kernel_rfl
theorem halt_want (R : T_api_Regs) (ime : Bool) (p : Int) : F10 (Hc R ime, p) = some (bif bits .and .u8 p 31 == 0 then (Hc R ime, ⟨0, 0, 0⟩, -1) else bif ime then ({ Hc R ime with Mode := 4 }, ⟨0, 0, 0⟩, -1) else ({ Hc R ime with Mode := 0 }, ⟨1, R.PC, 0⟩, -1)) := by
  have e20 : F20 ⟨Hc R ime⟩ = some false := by kernel_rfl
  unfold F10 G10
  simp only [Gd.run, Gd.k, Gd.z, e20]
  cases h : bits .and .u8 p 31 == 0 with
  | true => simp
  | false =>
    have e21 : f21 (⟨Hc R ime⟩, bits .and .u8 p 31) = bif ime && bits .and .u8 p 31 != 0 then (⟨0, 0, 0⟩, ⟨{ Hc R ime with Mode := 4 }⟩) else (⟨1, R.PC, 0⟩, ⟨{ Hc R ime with Mode := 0 }⟩) := by cases ime <;> rfl
    have h' : (bits .and .u8 p 31 != 0) = true := by simp only [bne, h, Bool.not_false]
    simp only [h', Bool.and_true] at e21
    cases ime <;> simp [e21]
theorem halt_done (R : T_api_Regs) (ime : Bool) (d p : Int) : F12 (Hc R ime, d, p) = some (Hc R ime) := by
  have e : f27 ⟨Hc R ime⟩ = true := rfl
  unfold F12 G12
  simp [Gd.run, Gd.z, e]

theorem low_all : (List.range 256).all (fun i => ((Int.tmod (i : Int) 32 == 0) == (bits .and .u8 (i : Int) 31 == 0)) && ((bits .and .u8 (Int.tmod (i : Int) 32) 31 == 0) == (Int.tmod (i : Int) 32 == 0))) = true := by kernel_rfl

theorem halts_round (up : Bool) (n p q : Int) (ime : Bool) (r R : T_api_Regs) (a b : T_api_Cpu) (x : Int) (h0 : 0 ≤ x) (hx : x < Int.tmod n 50) (hn : Int.tmod n 50 ≤ 50) :
    (LG4_l1 (ime, n, p, up, q, r, a, b) (x, Hc R ime)).run = some (.inl (x + 1, Hc R ime)) := by
  have e1 : decide (x < Int.tmod n 50) = true := decide_eq_true hx
  have e2 : IntKind.wrap .u8 (x + 1) = x + 1 := by
    have w : ∀ y : Int, IntKind.wrap .u8 y = y % 256 := fun y => by simp [IntKind.wrap, IntKind.bits, IntKind.signed]
    rw [w]; omega
  have e4 : T_api_Cpu.eqb (Hc R ime) (Hc R ime) = true := T_api_Cpu.eqb_iff.2 rfl
  have e5 : F10 (Hc R ime, 0) = some (Hc R ime, ⟨0, 0, 0⟩, -1) := (halt_want R ime 0).trans rfl
  unfold LG4_l1
  simp [Gd.run, Gd.k, Gd.z, e1, e5, halt_done, e4, e2, T_api_Act.eqb]

theorem halts_end (up : Bool) (n p q : Int) (ime : Bool) (r R : T_api_Regs) (a b : T_api_Cpu) (x : Int) (hx : ¬ x < Int.tmod n 50) :
    (LG4_l1 (ime, n, p, up, q, r, a, b) (x, Hc R ime)).run = some (.inr (.inl (Hc R ime))) := by
  unfold LG4_l1
  simp only [Gd.run, Gd.z, decide_eq_false hx, cond_false, cond_true]

theorem halts_loop (up : Bool) (n p q : Int) (ime : Bool) (r R : T_api_Regs) (a b : T_api_Cpu) (hn : Int.tmod n 50 ≤ 50) : ∀ (d m : Nat) (x : Int), 0 ≤ x → Int.tmod n 50 - x ≤ d → d < m → LF4_l1 (ime, n, p, up, q, r, a, b) m (x, Hc R ime) = some (.inl (Hc R ime))
  | d, 0, _, _, _, h => by omega
  | 0, m + 1, x, h0, hd, h => by
    unfold LF4_l1 rounds
    simp only [halts_end up n p q ime r R a b x (by omega)]
  | d + 1, m + 1, x, h0, hd, h => by
    by_cases hx : x < Int.tmod n 50
    · have ih := halts_loop up n p q ime r R a b hn d m (x + 1) (by omega) (by omega) (by omega)
      unfold LF4_l1 rounds
      simp only [halts_round up n p q ime r R a b x h0 hx hn]
      exact ih
    · unfold LF4_l1 rounds
      simp only [halts_end up n p q ime r R a b x hx]

theorem halts (r : T_api_Regs) (ime : Bool) (n p : Int) (hn : 0 ≤ n ∧ n ≤ 255) (hp : 0 ≤ p ∧ p ≤ 255) : F4 (r, ime, n, p) = some true := by
  obtain ⟨i, rfl, hi⟩ := byte_nat hp
  have hall := range_all low_all hi
  simp only [Bool.and_eq_true, beq_iff_eq] at hall
  obtain ⟨a1, a2⟩ := hall
  have e9 : f9 r = C0 { r with F := bits .andNot .u8 r.F 15 } := rfl
  have hn50 : Int.tmod n 50 ≤ 50 := by
    rw [Int.tmod_eq_emod_of_nonneg hn.1]; omega
  have eL : ∀ (up : Bool) (p q : Int) (ime : Bool) (R : T_api_Regs) (a b : T_api_Cpu), LF4_l1 (ime, n, p, up, q, r, a, b) 18446744073709551616 (0, Hc R ime) = some (.inl (Hc R ime)) := fun up p q ime R a b =>
    halts_loop up n p q ime r R a b hn50 50 _ 0 (Int.le_refl _) (by omega) (by omega)
  have w0 := halt_fetch { r with F := bits .andNot .u8 r.F 15 } ime 0
  have w1 := halt_fetch { r with F := bits .andNot .u8 r.F 15 } ime (Int.tmod (i : Int) 32)
  have b0 : (bits .and .u8 (0 : Int) 31 != 0) = false := rfl
  have b1 : (bits .and .u8 (Int.tmod (i : Int) 32) 31 != 0) = !(Int.tmod (i : Int) 32 == 0) := by rw [bne, a2]
  rw [b0, Bool.and_false, cond_false] at w0
  rw [b1] at w1
  have hw := fun R => halt_want R ime (i : Int)
  unfold F4 G4
  simp only [Gd.run, Gd.k, Gd.z, shown_ok, Option.bind_some, cond_true, e9, want0, w0, w1]
  refine (Gd.run_ll (eL _ _ _ ime _ _ _)).trans ?_
  have m1 : ((1 : Int) != 1) = false := rfl
  have m2 : ((4 : Int) != 4) = false := rfl
  simp only [Gd.run, Gd.k, Gd.z, id, m1, m2, bne_self_eq_false, cond_false, hw, Option.bind_some, cond_true]
  rw [← a1]
  have hz : (Int.tmod (i : Int) 32 != 0) = !(Int.tmod (i : Int) 32 == 0) := rfl
  cases hc : Int.tmod (i : Int) 32 == 0 with
  | true =>
    simp only [hz, hc, Bool.not_true, Bool.not_false, cond_true, cond_false, Bool.and_false, T_api_Cpu.eqb_iff.2 rfl, w0, Option.bind_some]
  | false =>
    cases ime with
    | true =>
      simp only [hz, hc, Bool.not_true, Bool.not_false, cond_true, cond_false, Bool.and_false, Bool.false_and, w0, Option.bind_some]
      simp [T_api_Act.eqb, T_api_Cpu.eqb_iff.2 rfl]
    | false =>
      simp only [hz, hc, Bool.not_true, Bool.not_false, cond_true, cond_false, Bool.and_false, Bool.and_true, w0, Option.bind_some]
      have hb : F10 (D0 { r with F := bits .andNot .u8 r.F 15, PC := IntKind.wrap .u16 (r.PC + 1) } false true 118, 0) = _ := bug_want _ _
      have hn := nop_bug { r with F := bits .andNot .u8 r.F 15, PC := IntKind.wrap .u16 (r.PC + 1) }
      simp [Gd.run, Gd.k, Gd.z, T_api_Act.eqb, hb, hn]
end Go.Gen.Try
