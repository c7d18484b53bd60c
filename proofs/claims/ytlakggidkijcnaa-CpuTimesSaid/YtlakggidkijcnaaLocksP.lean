import Derived.Test.YtlakggidkijcnaaE3
set_option linter.all false
/- The plain law of CpuLocks. -/
namespace Go.Gen.Try
open Go Go.LE

abbrev C0 (R : T_api_Regs) : T_api_Cpu := T_api_Cpu.mk R false false false 0 0 false 0 0 0
abbrev C1 (R : T_api_Regs) (d : Int) : T_api_Cpu := T_api_Cpu.mk { R with PC := IntKind.wrap .u16 (R.PC + 1) } false false false 0 d false 1 0 0

theorem shown_ok : F8 () = some true := by kernel_rfl
theorem want0 (R : T_api_Regs) (p : Int) : F10 (C0 R, p) = some (C0 R, ⟨1, R.PC, 0⟩, -1) := by kernel_rfl

theorem done0 (R : T_api_Regs) (d p : Int) (hd : 0 ≤ d ∧ d ≤ 255) : F12 (C0 R, d, p) = some (bif (t24 ⟨C1 R d⟩).2 then C1 R d else (t31 (⟨C1 R d⟩, bits .and .u8 p 31)).Cpu) := by
  have e27 : f27 ⟨C0 R⟩ = false := rfl
  have e20 : F20 ⟨C0 R⟩ = some false := by kernel_rfl
  have e29 : f29 (⟨C0 R⟩, d) = ⟨C1 R d⟩ := rfl
  have e24 : F24 ⟨C1 R d⟩ = some (t24 ⟨C1 R d⟩) := E24 _ hd
  have e31 : F31 (⟨C1 R d⟩, bits .and .u8 p 31) = some (t31 (⟨C1 R d⟩, bits .and .u8 p 31)) := E31 _ hd
  unfold F12 G12
  simp only [Gd.run, Gd.k, Gd.z, e27, e20, e29, cond_false, cond_true, Option.bind_some, Bool.not_false]
  simp only [show ((0 : Int) == 4) = false from rfl, cond_false, e24, Option.bind_some, e31]
  cases (t24 ⟨C1 R d⟩).2 <;> simp

theorem lock_want (c : T_api_Cpu) (p : Int) (h : c.Mode = 3) : F10 (c, p) = some (c, ⟨0, 0, 0⟩, -1) := by
  unfold F10 G10
  simp [Gd.run, Gd.z, h]
theorem lock_done (c : T_api_Cpu) (d p : Int) (h : c.Mode = 3) : F12 (c, d, p) = some c := by
  unfold F12 G12
  have e : f27 ⟨c⟩ = true := by
    have : f27 ⟨c⟩ = bif c.Mode == 1 then true else bif c.Mode == 2 then true else c.Mode == 3 := rfl
    rw [this, h]; rfl
  simp [Gd.run, Gd.z, e]

/-- An illegal opcode's plan has no cycle. -/
theorem bad_plan : (List.range 256).all (fun i => !((t15 (i : Int)).Kind == 5) || ((t41 ((i : Int), false, true)).isNone && (t41 ((i : Int), false, false)).isNone)) = true := by kernel_rfl
theorem bad_not : (List.range 256).all (fun i => !((t15 (i : Int)).Kind == 5) || !((i : Int) == 203)) = true := by kernel_rfl

theorem form0 (R : T_api_Regs) (d : Int) (hd : 0 ≤ d ∧ d ≤ 255) : t45 ⟨C1 R d⟩ = t15 d := by
  have h : F45 ⟨C1 R d⟩ = F15 d := by
    unfold F45 G45
    simp only [Gd.run, Gd.k, Gd.z, cond_false, cond_true]
    cases F15 d <;> rfl
  have h1 := E45 ⟨C1 R d⟩ hd
  rw [h, E15 d hd] at h1
  exact (Option.some.inj h1).symm

theorem bad_cycle (R : T_api_Regs) (d : Int) (hd : 0 ≤ d ∧ d ≤ 255) (hk : (t15 d).Kind = 5) : (t24 ⟨C1 R d⟩).2 = false := by
  obtain ⟨i, rfl, hi⟩ := byte_nat hd
  have h1 := range_all bad_plan hi
  have h2 := range_all bad_not hi
  simp only [hk, beq_self_eq_true, Bool.not_true, Bool.false_or, Bool.and_eq_true, Option.isNone_iff_eq_none, Bool.not_eq_true'] at h1 h2
  have e42 := E42 ⟨C1 R (i : Int)⟩ hd
  have e41 := E41 ((i : Int), false, t42 ⟨C1 R (i : Int)⟩) hd
  have e41' : t41 ((i : Int), false, t42 ⟨C1 R (i : Int)⟩) = none := by
    cases t42 ⟨C1 R (i : Int)⟩
    · exact h1.2
    · exact h1.1
  rw [e41'] at e41
  have e40 : f40 ⟨C1 R (i : Int)⟩ = false := by
    have : f40 ⟨C1 R (i : Int)⟩ = bif (i : Int) == 203 then true else false := rfl
    rw [this, h2]; rfl
  have : F24 ⟨C1 R (i : Int)⟩ = some (⟨0, 0, 0⟩, false) := by
    unfold F24 G24
    simp [Gd.run, Gd.k, Gd.z, e40, selB, e42, e41, IntKind.wrap_i64]
  have h3 := E24 ⟨C1 R (i : Int)⟩ hd
  rw [this] at h3
  rw [← Option.some.inj h3]

theorem bad_end (R : T_api_Regs) (d p : Int) (hd : 0 ≤ d ∧ d ≤ 255) (hk : (t15 d).Kind = 5) : t31 (⟨C1 R d⟩, p) = ⟨{ C1 R d with Mode := 3, Step := 0 }⟩ := by
  have e45 := E45 ⟨C1 R d⟩ hd
  rw [form0 R d hd] at e45
  have : F31 (⟨C1 R d⟩, p) = some ⟨{ C1 R d with Mode := 3, Step := 0 }⟩ := by
    unfold F31 G31
    simp [Gd.run, Gd.k, Gd.z, e45, hk]
  have h3 := E31 (⟨C1 R d⟩, p) hd
  rw [this] at h3
  exact (Option.some.inj h3).symm

/-- Behind the opcode: locked if it is illegal, and only then. -/
theorem bad_done (R : T_api_Regs) (d p : Int) (hd : 0 ≤ d ∧ d ≤ 255) (hk : (t15 d).Kind = 5) : F12 (C0 R, d, p) = some { C1 R d with Mode := 3, Step := 0 } := by
  rw [done0 R d p hd, bad_cycle R d hd hk, bad_end R d _ hd hk]
  rfl
theorem good_done (R : T_api_Regs) (d p : Int) (hd : 0 ≤ d ∧ d ≤ 255) (hk : (t15 d).Kind ≠ 5) : ∃ c, F12 (C0 R, d, p) = some c ∧ c.Mode ≠ 3 := by
  refine ⟨_, done0 R d p hd, ?_⟩
  cases (t24 ⟨C1 R d⟩).2
  · exact (R31 (⟨C1 R d⟩, bits .and .u8 p 31) hd).2 rfl (by rw [form0 R d hd]; exact hk)
  · exact (by decide : (0 : Int) ≠ 3)
end Go.Gen.Try
namespace Go.Gen.Try
open Go Go.LE
theorem wrap_up {x : Int} {n : Nat} (h0 : 0 ≤ x) (h : x < (n : Int)) (hn : n ≤ maxLen) : IntKind.wrap .i64 (x + 1) = x + 1 := by
  rw [IntKind.wrap_i64]
  have : maxLen = 9223372036854775807 := by decide
  omega

theorem locks_round (up : Bool) (L : List T_whirligiglaw22_Came) (own : Bool) (row : Option (Nat × Nat)) (r : T_api_Regs) (c : T_api_Cpu) (x : Int) (hc : c.Mode = 3) (h0 : 0 ≤ x) (hx : x < (L.length : Int)) (hn : L.length ≤ maxLen) :
    (LG6_l1 (up, L, own, row, r, c) x).run = some (.inl (x + 1)) := by
  have e1 : decide (x < (L.length : Int)) = true := decide_eq_true hx
  have e2 : decide (0 ≤ x ∧ x < (L.length : Int)) = true := decide_eq_true ⟨h0, hx⟩
  have e3 : decide (x.toNat < L.length) = true := decide_eq_true (by omega)
  have e4 : T_api_Cpu.eqb c c = true := T_api_Cpu.eqb_iff.2 rfl
  unfold LG6_l1
  simp only [Gd.run, Gd.k, Gd.z, Gd.ae, Gd.lf, e1, e2, e3, cond_true, lock_want c _ hc, lock_done c _ _ hc, Option.bind_some, e4, wrap_up h0 hx hn]
  rfl
theorem locks_end (up : Bool) (L : List T_whirligiglaw22_Came) (own : Bool) (row : Option (Nat × Nat)) (r : T_api_Regs) (c : T_api_Cpu) (x : Int) (hx : ¬ x < (L.length : Int)) : (LG6_l1 (up, L, own, row, r, c) x).run = some (.inr (.inl ())) := by
  unfold LG6_l1
  simp only [Gd.run, decide_eq_false hx, cond_false, cond_true]

theorem locks_loop (up : Bool) (L : List T_whirligiglaw22_Came) (own : Bool) (row : Option (Nat × Nat)) (r : T_api_Regs) (c : T_api_Cpu) (hc : c.Mode = 3) (hn : L.length ≤ maxLen) : ∀ (d n : Nat) (x : Int), 0 ≤ x → (L.length : Int) - x = d → d < n → LF6_l1 (up, L, own, row, r, c) n x = some (.inl ())
  | d, 0, _, _, _, h => by omega
  | 0, n + 1, x, h0, hd, h => by
    unfold LF6_l1 rounds
    simp only [locks_end up L own row r c x (by omega)]
  | d + 1, n + 1, x, h0, hd, h => by
    have ih := locks_loop up L own row r c hc hn d n (x + 1) (by omega) (by omega) (by omega)
    unfold LF6_l1 rounds
    simp only [locks_round up L own row r c x hc h0 (by omega) hn]
    exact ih
end Go.Gen.Try
namespace Go.Gen.Try
open Go Go.LE
theorem locks (r : T_api_Regs) (op : Int) (ime own : Bool) (row : Option (Nat × Nat)) (L : List T_whirligiglaw22_Came) (ho : 0 ≤ op ∧ op ≤ 255) (hn : L.length ≤ maxLen) : F6 (r, op, ime, own, row, L) = some true := by
  have e13 : F13 op = some ((t15 op).Kind == 5) := by
    unfold F13 G13
    simp only [Gd.run, Gd.k, Gd.z, E15 op ho, Option.bind_some, cond_true]
  have e9 : f9 r = C0 { r with F := bits .andNot .u8 r.F 15 } := rfl
  unfold F6 G6
  simp only [Gd.run, Gd.k, Gd.z, shown_ok, Option.bind_some, cond_true, e9, want0, e13]
  cases hk : (t15 op).Kind == 5 with
  | true =>
    have hk' := eq_of_beq hk
    have eL : ∀ (up : Bool) (r : T_api_Regs) (c : T_api_Cpu), c.Mode = 3 → LF6_l1 (up, L, own, row, r, c) 18446744073709551616 0 = some (.inl ()) := fun up r c hc =>
      locks_loop up L own row r c hc hn L.length _ 0 (Int.le_refl _) (by omega) (by unfold maxLen at hn; omega)
    simp only [bad_done _ op _ ho hk', Option.bind_some, cond_true, cond_false, Bool.not_true]
    refine (Gd.run_ll (eL _ _ _ rfl)).trans ?_
    simp [Gd.run]
  | false =>
    have hk' : (t15 op).Kind ≠ 5 := fun h => by rw [h] at hk; cases hk
    obtain ⟨c, e1, e2⟩ := good_done { r with F := bits .andNot .u8 r.F 15 } op 0 ho hk'
    have e3 : (c.Mode != 3) = true := bne_iff_ne.2 e2
    simp only [e1, Option.bind_some, cond_true, cond_false, Bool.not_false, e3]
    rfl
end Go.Gen.Try
