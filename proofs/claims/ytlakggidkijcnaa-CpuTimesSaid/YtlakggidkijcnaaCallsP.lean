import Derived.Test.YtlakggidkijcnaaLocksP
set_option linter.all false
/- The plain law of CpuCalls. -/
namespace Go.Gen.Try
open Go Go.LE

abbrev K (R : T_api_Regs) (ime : Bool) (mode step lo : Int) : T_api_Cpu := T_api_Cpu.mk R ime false false mode 0 false step lo 0
noncomputable def sp1 (R : T_api_Regs) : T_api_Regs := { R with SP := IntKind.wrap .u16 (R.SP - 1) }

theorem cw0 (R : T_api_Regs) (q : Int) (h : (bits .and .u8 q 31 != 0) = true) : F10 (K R true 0 0 0, q) = some (K R true 4 0 0, ⟨0, 0, 0⟩, -1) := by
  have e20 : F20 ⟨K R true 0 0 0⟩ = some false := by kernel_rfl
  have e21 : f21 (⟨K R true 0 0 0⟩, bits .and .u8 q 31) = (⟨0, 0, 0⟩, ⟨K R true 4 0 0⟩) := by
    unfold f21 G21
    simp only [Gd.val, Gd.z, h, cond_true]
  unfold F10 G10
  simp only [Gd.run, Gd.k, Gd.z, e20, e21, Option.bind_some, cond_true, Bool.not_false]
  rfl
theorem cd0 (R : T_api_Regs) (q : Int) : F12 (K R true 4 0 0, 0, q) = some (K R false 4 1 0) := by kernel_rfl
theorem cb1 (R : T_api_Regs) : F11 (K R false 4 1 0) = some true := by kernel_rfl
theorem cw1 (R : T_api_Regs) (q : Int) : F10 (K R false 4 1 0, q) = some (K R false 4 1 0, ⟨0, 0, 0⟩, -1) := by kernel_rfl
theorem cd1 (R : T_api_Regs) (q : Int) : F12 (K R false 4 1 0, 0, q) = some (K R false 4 2 0) := by kernel_rfl
theorem cb2 (R : T_api_Regs) : F11 (K R false 4 2 0) = some true := by kernel_rfl
theorem cw2 (R : T_api_Regs) (q : Int) : F10 (K R false 4 2 0, q) = some (K R false 4 2 0, ⟨3, IntKind.wrap .u16 (R.SP - 1), IntKind.wrap .u8 (Int.fdiv R.PC (2 ^ 8))⟩, -1) := by kernel_rfl
theorem cd2 (R : T_api_Regs) (q : Int) : F12 (K R false 4 2 0, 0, q) = some (K (sp1 R) false 4 3 0) := by kernel_rfl
theorem cb3 (R : T_api_Regs) : F11 (K R false 4 3 0) = some true := by kernel_rfl
theorem cw3 (R : T_api_Regs) (q : Int) (n : Int) (ok : Bool) (h : f39 (bits .and .u8 q 31) = (n, ok)) : F10 (K R false 4 3 0, q) = some (K R false 4 3 (bif ok then IntKind.wrap .u8 n else 5), ⟨3, IntKind.wrap .u16 (R.SP - 1), IntKind.wrap .u8 R.PC⟩, bif ok then n else -1) := by
  have e20 : F20 ⟨K R false 4 3 0⟩ = some true := by kernel_rfl
  have e26 : F26 (⟨K R false 4 3 0⟩, 7) = some (IntKind.wrap .u8 R.PC) := by kernel_rfl
  have e22 : F22 (⟨K R false 4 3 0⟩, bits .and .u8 q 31) = some (⟨3, IntKind.wrap .u16 (R.SP - 1), IntKind.wrap .u8 R.PC⟩, (bif ok then n else -1), ⟨K R false 4 3 (bif ok then IntKind.wrap .u8 n else 5)⟩) := by
    unfold F22 G22
    simp only [Gd.run, Gd.k, Gd.z, e26, Option.bind_some, cond_true, h]
    cases ok <;> rfl
  unfold F10 G10
  simp only [Gd.run, Gd.k, Gd.z, e20, e22, Option.bind_some, cond_true, Bool.not_true]
  rfl
theorem cd3 (R : T_api_Regs) (q lo : Int) : F12 (K R false 4 3 lo, 0, q) = some (K (sp1 R) false 4 4 lo) := by kernel_rfl
theorem cb4 (R : T_api_Regs) (lo : Int) : F11 (K R false 4 4 lo) = some true := by kernel_rfl
theorem cw4 (R : T_api_Regs) (q lo : Int) : F10 (K R false 4 4 lo, q) = some (K R false 4 4 lo, ⟨0, 0, 0⟩, -1) := by kernel_rfl
theorem cd4 (R : T_api_Regs) (q lo : Int) : F12 (K R false 4 4 lo, 0, q) = some (K { R with PC := (f48 (IntKind.wrap .i64 lo)).1 } false 0 0 lo) := by kernel_rfl
theorem cb5 (R : T_api_Regs) (lo : Int) : F11 (K R false 0 0 lo) = some false := by kernel_rfl

/-- The first that is pending. -/
noncomputable def firstOk (i : Nat) : Bool :=
  match f39 (bits .and .u8 (i : Int) 31) with
  | (n, ok) => (ok == (Int.tmod (i : Int) 32 != 0)) && (!ok || (decide (0 ≤ n) && decide (n ≤ 4) && (IntKind.wrap .u8 n == n) && ((f48 (IntKind.wrap .i64 n)).1 == IntKind.wrap .u16 (64 + IntKind.wrap .u16 (8 * IntKind.wrap .u16 n))) && (bits .and .u8 (Int.fdiv (i : Int) (2 ^ (min (Int.toNat n) (IntKind.bits .u8)))) 1 == 1) &&
      (List.range n.toNat).all fun k => !(bits .and .u8 (Int.fdiv (i : Int) (2 ^ (min k (IntKind.bits .u8)))) 1 == 1)))
theorem first_all : (List.range 256).all firstOk = true := by kernel_rfl
theorem round_0 (R r : T_api_Regs) (p later : Int) (up : Bool) (n : Int) (ok : Bool) (h1 : (bits .and .u8 p 31 != 0) = true) (h2 : f39 (bits .and .u8 later 31) = (n, ok)) (h3 : ok = (Int.tmod later 32 != 0)) (h4 : ok = true → 0 ≤ n) :
    (LG3_l4 (p, later, up, r) (-1, 0, K R true 0 0 0, [])).run = some (.inl (-1, 1, K R false 4 1 0, [⟨0, 0, 0⟩])) := by
  unfold LG3_l4
  have e0 : (decide ((-1 : Int) ≥ 0)) = false := rfl
  have e1 : decide ((bif ok then n else -1) ≥ (0 : Int)) = ok := by cases ok; rfl; simp [h4 rfl]
  simp [Gd.run, Gd.k, Gd.z, Gd.ap, cw0 R p h1, cd0 R, cb1, IntKind.wrap_i64, ← h3]
  skip
theorem round_1 (R r : T_api_Regs) (p later : Int) (up : Bool) (n : Int) (ok : Bool) (h1 : (bits .and .u8 p 31 != 0) = true) (h2 : f39 (bits .and .u8 later 31) = (n, ok)) (h3 : ok = (Int.tmod later 32 != 0)) (h4 : ok = true → 0 ≤ n) :
    (LG3_l4 (p, later, up, r) (-1, 1, K R false 4 1 0, [⟨0, 0, 0⟩])).run = some (.inl (-1, 2, K R false 4 2 0, [⟨0, 0, 0⟩, ⟨0, 0, 0⟩])) := by
  unfold LG3_l4
  have e0 : (decide ((-1 : Int) ≥ 0)) = false := rfl
  have e1 : decide ((bif ok then n else -1) ≥ (0 : Int)) = ok := by cases ok; rfl; simp [h4 rfl]
  simp [Gd.run, Gd.k, Gd.z, Gd.ap, cw1, cd1, cb2, IntKind.wrap_i64, ← h3]
  skip
theorem round_2 (R r : T_api_Regs) (p later : Int) (up : Bool) (n : Int) (ok : Bool) (h1 : (bits .and .u8 p 31 != 0) = true) (h2 : f39 (bits .and .u8 later 31) = (n, ok)) (h3 : ok = (Int.tmod later 32 != 0)) (h4 : ok = true → 0 ≤ n) :
    (LG3_l4 (p, later, up, r) (-1, 2, K R false 4 2 0, [⟨0, 0, 0⟩, ⟨0, 0, 0⟩])).run = some (.inl (-1, 3, K (sp1 R) false 4 3 0, [⟨0, 0, 0⟩, ⟨0, 0, 0⟩, ⟨3, IntKind.wrap .u16 (R.SP - 1), IntKind.wrap .u8 (Int.fdiv R.PC (2 ^ 8))⟩])) := by
  unfold LG3_l4
  have e0 : (decide ((-1 : Int) ≥ 0)) = false := rfl
  have e1 : decide ((bif ok then n else -1) ≥ (0 : Int)) = ok := by cases ok; rfl; simp [h4 rfl]
  simp [Gd.run, Gd.k, Gd.z, Gd.ap, cw2, cd2, cb3, IntKind.wrap_i64, ← h3]
  skip
theorem round_3 (R r : T_api_Regs) (p later : Int) (up : Bool) (n : Int) (ok : Bool) (h1 : (bits .and .u8 p 31 != 0) = true) (h2 : f39 (bits .and .u8 later 31) = (n, ok)) (h3 : ok = (Int.tmod later 32 != 0)) (h4 : ok = true → 0 ≤ n) :
    (LG3_l4 (p, later, up, r) (-1, 3, K (sp1 R) false 4 3 0, [⟨0, 0, 0⟩, ⟨0, 0, 0⟩, ⟨3, IntKind.wrap .u16 (R.SP - 1), IntKind.wrap .u8 (Int.fdiv R.PC (2 ^ 8))⟩])).run = some (.inl ((bif ok then n else -1), 4, K (sp1 (sp1 R)) false 4 4 (bif ok then IntKind.wrap .u8 n else 5), [⟨0, 0, 0⟩, ⟨0, 0, 0⟩, ⟨3, IntKind.wrap .u16 (R.SP - 1), IntKind.wrap .u8 (Int.fdiv R.PC (2 ^ 8))⟩, ⟨3, IntKind.wrap .u16 ((sp1 R).SP - 1), IntKind.wrap .u8 (sp1 R).PC⟩])) := by
  unfold LG3_l4
  have e0 : (decide ((-1 : Int) ≥ 0)) = false := rfl
  have e1 : decide ((bif ok then n else -1) ≥ (0 : Int)) = ok := by cases ok; rfl; simp [h4 rfl]
  simp [Gd.run, Gd.k, Gd.z, Gd.ap, cw3 (sp1 R) later n ok h2, cd3, cb4, IntKind.wrap_i64, ← h3]
  cases ok <;> simp_all
theorem round_4 (R r : T_api_Regs) (p later : Int) (up : Bool) (n : Int) (ok : Bool) (h1 : (bits .and .u8 p 31 != 0) = true) (h2 : f39 (bits .and .u8 later 31) = (n, ok)) (h3 : ok = (Int.tmod later 32 != 0)) (h4 : ok = true → 0 ≤ n) :
    (LG3_l4 (p, later, up, r) ((bif ok then n else -1), 4, K (sp1 (sp1 R)) false 4 4 (bif ok then IntKind.wrap .u8 n else 5), [⟨0, 0, 0⟩, ⟨0, 0, 0⟩, ⟨3, IntKind.wrap .u16 (R.SP - 1), IntKind.wrap .u8 (Int.fdiv R.PC (2 ^ 8))⟩, ⟨3, IntKind.wrap .u16 ((sp1 R).SP - 1), IntKind.wrap .u8 (sp1 R).PC⟩])).run = some (.inl ((bif ok then n else -1), 5, K { sp1 (sp1 R) with PC := (f48 (IntKind.wrap .i64 (bif ok then IntKind.wrap .u8 n else 5))).1 } false 0 0 (bif ok then IntKind.wrap .u8 n else 5), [⟨0, 0, 0⟩, ⟨0, 0, 0⟩, ⟨3, IntKind.wrap .u16 (R.SP - 1), IntKind.wrap .u8 (Int.fdiv R.PC (2 ^ 8))⟩, ⟨3, IntKind.wrap .u16 ((sp1 R).SP - 1), IntKind.wrap .u8 (sp1 R).PC⟩, ⟨0, 0, 0⟩])) := by
  unfold LG3_l4
  have e0 : (decide ((-1 : Int) ≥ 0)) = false := rfl
  have e1 : decide ((bif ok then n else -1) ≥ (0 : Int)) = ok := by cases ok; rfl; simp [h4 rfl]
  simp [Gd.run, Gd.k, Gd.z, Gd.ap, cw4, cd4, cb5, IntKind.wrap_i64, ← h3]
  skip
theorem round_5 (r : T_api_Regs) (p later : Int) (up : Bool) (t : Int) (c : T_api_Cpu) (l : List T_api_Act) : (LG3_l4 (p, later, up, r) (t, 5, c, l)).run = some (.inr (.inl (t, c, l))) := by
  unfold LG3_l4
  simp [Gd.run]

theorem rounds_go {σ ω : Type} {K : σ → Option (σ ⊕ ω)} {s s' : σ} (h : K s = some (.inl s')) (n : Nat) : rounds K (n + 1) s = rounds K n s' := by
  simp only [rounds, h]
theorem rounds_out {σ ω : Type} {K : σ → Option (σ ⊕ ω)} {s : σ} {o : ω} (h : K s = some (.inr o)) (n : Nat) : rounds K (n + 1) s = some o := by
  simp only [rounds, h]

noncomputable abbrev theActs (R : T_api_Regs) : List T_api_Act := [⟨0, 0, 0⟩, ⟨0, 0, 0⟩, ⟨3, IntKind.wrap .u16 (R.SP - 1), IntKind.wrap .u8 (Int.fdiv R.PC (2 ^ 8))⟩, ⟨3, IntKind.wrap .u16 ((sp1 R).SP - 1), IntKind.wrap .u8 (sp1 R).PC⟩, ⟨0, 0, 0⟩]
noncomputable abbrev theEnd (R : T_api_Regs) (n : Int) (ok : Bool) : T_api_Cpu := K { sp1 (sp1 R) with PC := (f48 (IntKind.wrap .i64 (bif ok then IntKind.wrap .u8 n else 5))).1 } false 0 0 (bif ok then IntKind.wrap .u8 n else 5)

theorem calls_loop (R r : T_api_Regs) (p later : Int) (up : Bool) (n : Int) (ok : Bool) (h1 : (bits .and .u8 p 31 != 0) = true) (h2 : f39 (bits .and .u8 later 31) = (n, ok)) (h3 : ok = (Int.tmod later 32 != 0)) (h4 : ok = true → 0 ≤ n) (m : Nat) :
    LF3_l4 (p, later, up, r) (m + 6) (-1, 0, K R true 0 0 0, []) = some (.inl ((bif ok then n else -1), theEnd R n ok, theActs R)) := by
  unfold LF3_l4
  rw [show m + 6 = m + 5 + 1 from rfl, rounds_go (round_0 R r p later up n ok h1 h2 h3 h4), rounds_go (round_1 R r p later up n ok h1 h2 h3 h4), rounds_go (round_2 R r p later up n ok h1 h2 h3 h4),
    rounds_go (round_3 R r p later up n ok h1 h2 h3 h4), rounds_go (round_4 R r p later up n ok h1 h2 h3 h4), rounds_out (round_5 r p later up _ _ _)]
theorem l1_l4 (later : Int) (up : Bool) (r : T_api_Regs) (n : Nat) (x : LS3_l4) : LF3_l1 (later, up, r) n x = LF3_l4 (1, later, up, r) n x := rfl

/-- The bits below the first are clear. -/
theorem low_loop (later : Int) (up : Bool) (t pc : Int) (r : T_api_Regs) (c : T_api_Cpu) (l : List T_api_Act) (a b : T_api_Act) (ht : t ≤ 4) (h : ∀ k : Nat, (k : Int) < t → (bits .and .u8 (Int.fdiv later (2 ^ (min k (IntKind.bits .u8)))) 1 == 1) = false) :
    ∀ (d n : Nat) (x : Int), 0 ≤ x → x ≤ t → t - x = d → d < n → LF3_l2 (later, up, t, pc, r, c, l, a, b) n x = some (.inl ())
  | d, 0, _, _, _, _, h => by omega
  | 0, n + 1, x, h0, h1, hd, hn => by
    have e : (LG3_l2 (later, up, t, pc, r, c, l, a, b) x).run = some (.inr (.inl ())) := by
      unfold LG3_l2
      simp only [Gd.run, decide_eq_false (show ¬ x < t by omega), cond_false, cond_true]
    exact rounds_out e n
  | d + 1, n + 1, x, h0, h1, hd, hn => by
    have e : (LG3_l2 (later, up, t, pc, r, c, l, a, b) x).run = some (.inl (x + 1)) := by
      have h5 := h x.toNat (by omega)
      have h6 : IntKind.wrap .i64 (x + 1) = x + 1 := by rw [IntKind.wrap_i64]; omega
      unfold LG3_l2
      simp only [Gd.run, Gd.q, decide_eq_true (show x < t by omega), decide_eq_true h0, h5, h6, cond_false, cond_true]
    exact (rounds_go e n).trans (low_loop later up t pc r c l a b ht h d n (x + 1) (by omega) (by omega) (by omega) (by omega))
theorem low_none (p : LP3_l3) (h : p.2.2.1 = -1) (n : Nat) : LF3_l3 p (n + 1) 0 = some (.inl ()) := by
  have e : (LG3_l3 p 0).run = some (.inr (.inl ())) := by
    unfold LG3_l3
    simp [Gd.run, h]
  exact rounds_out e n

theorem low_none' (later : Int) (up : Bool) (r : T_api_Regs) (c : T_api_Cpu) (l : List T_api_Act) (a b : T_api_Act) (n : Nat) : LF3_l3 (later, up, -1, r, c, l, a, b) (n + 1) 0 = some (.inl ()) := low_none _ rfl n

theorem calls (r : T_api_Regs) (first later : Int) (hf : 0 ≤ first ∧ first ≤ 255) (hl : 0 ≤ later ∧ later ≤ 255) : F3 (r, first, later) = some true := by
  obtain ⟨i, rfl, hi⟩ := byte_nat hl
  have hall := range_all first_all hi
  unfold firstOk at hall
  cases h39 : f39 (bits .and .u8 (i : Int) 31) with
  | mk n ok =>
  rw [h39] at hall
  simp only [Bool.and_eq_true, Bool.or_eq_true, beq_iff_eq] at hall
  obtain ⟨h3, h4⟩ := hall
  have h4' : ok = true → (0 ≤ n ∧ n ≤ 4 ∧ IntKind.wrap .u8 n = n ∧ (f48 (IntKind.wrap .i64 n)).1 = IntKind.wrap .u16 (64 + IntKind.wrap .u16 (8 * IntKind.wrap .u16 n)) ∧ bits .and .u8 (Int.fdiv (i : Int) (2 ^ (min (Int.toNat n) (IntKind.bits .u8)))) 1 = 1 ∧
      ∀ k : Nat, (k : Int) < n → (bits .and .u8 (Int.fdiv (i : Int) (2 ^ (min k (IntKind.bits .u8)))) 1 == 1) = false) := fun ho => by
    rw [ho] at h4
    rcases h4 with h4 | h4
    · cases h4
    · obtain ⟨⟨⟨⟨⟨a1, a2⟩, a3⟩, a4⟩, a5⟩, a6⟩ := h4
      refine ⟨of_decide_eq_true a1, of_decide_eq_true a2, a3, a4, a5, fun k hk => ?_⟩
      have := List.all_eq_true.1 a6 k (List.mem_range.2 (by omega))
      simpa using this
  have h40 : ok = true → 0 ≤ n := fun h => (h4' h).1
  have e9 : f9 r = C0 { r with F := bits .andNot .u8 r.F 15 } := rfl
  have wsp : ∀ x : Int, IntKind.wrap .u16 (IntKind.wrap .u16 (x - 1) - 1) = IntKind.wrap .u16 (x - 2) := fun x => by
    have w : ∀ y : Int, IntKind.wrap .u16 y = y % 65536 := fun y => by simp [IntKind.wrap, IntKind.bits, IntKind.signed]
    rw [w, w, w]; omega
  unfold F3 G3
  simp only [Gd.run, Gd.k, Gd.z, shown_ok, Option.bind_some, cond_true, e9]
  cases hc : Int.tmod first 32 == 0 with
  | true =>
    simp only [cond_true]
    refine (Gd.run_ll ((l1_l4 _ _ _ _ _).trans (calls_loop { r with F := bits .andNot .u8 r.F 15 } r 1 (i : Int) true n ok rfl h39 h3 h40 18446744073709551610))).trans ?_
    cases ok with
    | true =>
      obtain ⟨b1, b2, b3, b4, b5, b6⟩ := h4' rfl
      have e1 : decide (n ≥ (0 : Int)) = true := decide_eq_true b1
      have e2 : decide (n < (0 : Int)) = false := decide_eq_false (by omega)
      have e3 : decide ((0 : Int) ≤ n) = true := decide_eq_true b1
      simp only [id, Gd.run, cond_true, e1]
      refine (Gd.run_ll (low_loop _ _ n _ _ _ _ _ _ b2 b6 n.toNat 18446744073709551616 0 (Int.le_refl _) b1 (by omega) (by omega))).trans ?_
      simp [Gd.run, Gd.ae, Gd.le, Gd.q, Gd.z, theActs, sp1, T_api_Act.eqb, e2, e3, b3, b4, b5, wsp]
    | false =>
      have e1 : decide ((-1 : Int) ≥ (0 : Int)) = false := rfl
      simp only [id, Gd.run, cond_true, cond_false, e1]
      have e5 : (lc3_l3 ((i : Int), true, -1, r, theEnd { r with F := bits .andNot .u8 r.F 15 } n false, theActs { r with F := bits .andNot .u8 r.F 15 }, ⟨3, IntKind.wrap .u16 (r.SP - 1), IntKind.wrap .u8 (Int.fdiv r.PC (2 ^ 8))⟩, ⟨3, IntKind.wrap .u16 (r.SP - 2), IntKind.wrap .u8 r.PC⟩)).F (0 : Int) = some (.inl ()) := low_none ((i : Int), true, -1, r, theEnd { r with F := bits .andNot .u8 r.F 15 } n false, theActs { r with F := bits .andNot .u8 r.F 15 }, ⟨3, IntKind.wrap .u16 (r.SP - 1), IntKind.wrap .u8 (Int.fdiv r.PC (2 ^ 8))⟩, ⟨3, IntKind.wrap .u16 (r.SP - 2), IntKind.wrap .u8 r.PC⟩) rfl 18446744073709551615
      refine (Gd.run_ll e5).trans ?_
      have e48 : (f48 (IntKind.wrap .i64 5)).1 = 0 := by kernel_rfl
      simp [Gd.run, Gd.ae, Gd.le, Gd.q, Gd.z, theActs, sp1, T_api_Act.eqb, e48, wsp]
  | false =>
    have hp : (bits .and .u8 first 31 != 0) = true := by
      obtain ⟨j, rfl, hj⟩ := byte_nat hf
      have hall : (List.range 256).all (fun j => (Int.tmod (j : Int) 32 == 0) || (bits .and .u8 (j : Int) 31 != 0)) = true := by kernel_rfl
      have := range_all hall hj
      rw [hc] at this
      exact this
    simp only [cond_false]
    refine (Gd.run_ll (calls_loop { r with F := bits .andNot .u8 r.F 15 } r first (i : Int) true n ok hp h39 h3 h40 18446744073709551610)).trans ?_
    cases ok with
    | true =>
      obtain ⟨b1, b2, b3, b4, b5, b6⟩ := h4' rfl
      have e1 : decide (n ≥ (0 : Int)) = true := decide_eq_true b1
      have e2 : decide (n < (0 : Int)) = false := decide_eq_false (by omega)
      have e3 : decide ((0 : Int) ≤ n) = true := decide_eq_true b1
      simp only [id, Gd.run, cond_true, e1]
      refine (Gd.run_ll (low_loop _ _ n _ _ _ _ _ _ b2 b6 n.toNat 18446744073709551616 0 (Int.le_refl _) b1 (by omega) (by omega))).trans ?_
      simp [Gd.run, Gd.ae, Gd.le, Gd.q, Gd.z, theActs, sp1, T_api_Act.eqb, e2, e3, b3, b4, b5, wsp]
    | false =>
      have e1 : decide ((-1 : Int) ≥ (0 : Int)) = false := rfl
      simp only [id, Gd.run, cond_true, cond_false, e1]
      have e5 : (lc3_l3 ((i : Int), true, -1, r, theEnd { r with F := bits .andNot .u8 r.F 15 } n false, theActs { r with F := bits .andNot .u8 r.F 15 }, ⟨3, IntKind.wrap .u16 (r.SP - 1), IntKind.wrap .u8 (Int.fdiv r.PC (2 ^ 8))⟩, ⟨3, IntKind.wrap .u16 (r.SP - 2), IntKind.wrap .u8 r.PC⟩)).F (0 : Int) = some (.inl ()) := low_none ((i : Int), true, -1, r, theEnd { r with F := bits .andNot .u8 r.F 15 } n false, theActs { r with F := bits .andNot .u8 r.F 15 }, ⟨3, IntKind.wrap .u16 (r.SP - 1), IntKind.wrap .u8 (Int.fdiv r.PC (2 ^ 8))⟩, ⟨3, IntKind.wrap .u16 (r.SP - 2), IntKind.wrap .u8 r.PC⟩) rfl 18446744073709551615
      refine (Gd.run_ll e5).trans ?_
      have e48 : (f48 (IntKind.wrap .i64 5)).1 = 0 := by kernel_rfl
      simp [Gd.run, Gd.ae, Gd.le, Gd.q, Gd.z, theActs, sp1, T_api_Act.eqb, e48, wsp]
end Go.Gen.Try
