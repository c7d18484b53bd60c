import Derived.Test.YtlakggidkijcnaaLeC
set_option linter.all false
/- Operations that leave the memory as it is: what they give. -/
namespace Go.LE
open Go

theorem Inv.loc {base : Nat} {h : Heap} {ρ : Rho} {w : World} (hi : Inv base h ρ w) {i : Nat} (hb : isBorn h i = true) : ∃ l, ρ[i]? = some l := by
  have := born_lt hb
  rw [← hi.len] at this
  exact ⟨ρ[i], List.getElem?_eq_getElem this⟩

theorem Inv.cell {base : Nat} {h : Heap} {ρ : Rho} {w : World} (hi : Inv base h ρ w) {i : Nat} {b : Blk} (hb : h[i]? = some (Sl.live b)) :
    ∃ l, ρ[i]? = some l ∧ (∀ (j : Nat) (v : Value), b.vals[j]? = some v → w.cell? ⟨l.block, l.off + j, none⟩ = some (tr1 ρ v) ∧ wf1 h v = true ∧ l.nil = false) := by
  obtain ⟨l, hl, hw, hc⟩ := hi.blk i b hb
  refine ⟨l, hl, fun j v hj => ?_⟩
  have hwv := hw v (List.mem_of_getElem? hj)
  rcases hc with ⟨_, h2, _⟩ | ⟨h1, _, _, cs, e, fr, h4, _, _, h7⟩ | ⟨h1, _, _, h4⟩
  · rw [h2] at hj; simp at hj
  · exact ⟨by rw [cell_of_row w _ _ cs e fr h4]; exact h7 j v hj, hwv, h1⟩
  · exact ⟨h4 j v hj, hwv, h1⟩

theorem run_lnil {base : Nat} {h : Heap} {ρ : Rho} {w : World} (hi : Inv base h ρ w) {a : Option Addr} {n c : Nat} {r : Bool} (hr : lnil h (.slice a n c) = some r) :
    ∃ a' n' c', tr ρ (.slice a n c) = .slice a' n' c' ∧ a'.isNone = r := by
  cases a with
  | none => cases hr; exact ⟨none, n, c, rfl, rfl⟩
  | some a =>
    obtain ⟨i, o, s⟩ := a
    simp only [lnil] at hr
    cases hb : h[i]? with
    | none => rw [hb] at hr; cases hr
    | some x =>
      rw [hb] at hr
      cases x with
      | dead => cases hr
      | unborn => cases hr
      | live b =>
        obtain ⟨vals, own, row⟩ := b
        cases vals with
        | nil => cases hr
        | cons x xs =>
          cases hr
          obtain ⟨l, hl, hc⟩ := hi.cell hb
          have h3 := (hc 0 x (by simp)).2.2
          exact ⟨some ⟨l.block, l.off + o, none⟩, n, if c = 0 then l.ecap - o / l.esz else c, by simp [tr, tr2, tr1, tr0, hl, h3], rfl⟩

theorem run_equalIn_slice_nil {P : Program} {t e : TypeId} (d : Nat) (hu : P.underlying t = some (.slice e)) (a : Option Addr) (n c n2 c2 : Nat) (w : World) :
    (Op.equalIn (d + 1) t (.slice a n c) (.slice none n2 c2)).run P w = .ok a.isNone w := by
  cases a <;> simp [Op.equalIn, run_underlying hu]

theorem run_equal_slice_nil {P : Program} {t e : TypeId} (hu : P.underlying t = some (.slice e)) (a : Option Addr) (n c n2 c2 : Nat) (w : World) :
    (Op.equal t (.slice a n c) (.slice none n2 c2)).run P w = .ok a.isNone w := run_equalIn_slice_nil 9999 hu a n c n2 c2 w

theorem tr_bool {ρ : Rho} {b : Bool} : tr ρ (.bool b) = .bool b := rfl
theorem tr_int {ρ : Rho} {k : IntKind} {n : Int} : tr ρ (.int k n) = .int k n := rfl
theorem tr_string {ρ : Rho} {s : ByteArray} : tr ρ (.string s) = .string s := rfl

theorem run_lbin {P : Program} {base : Nat} {h : Heap} {ρ : Rho} {w : World} (hi : Inv base h ρ w) {sd : Bool} {op : BinOp} {t : TypeId} {x y v : Value} {obs : List Prop} (px py : Operand)
    (hl : lbin P h sd op t x y = some (v, obs)) (ho : All obs) (hx : wf h x = true) (hy : wf h y = true) :
    ((do eqGuard op t px py (tr ρ x) (tr ρ y); Go.binOp op t (tr ρ x) (tr ρ y) : Sem Value)).run P w = .ok (tr ρ v) w ∧ wf h v = true := by
  unfold lbin at hl
  cases x with
  | int k a =>
    simp only at hl
    cases y with
    | int k' b =>
      simp only at hl
      simp only [tr_int, eqGuard_int, Sem.run_bind, Sem.run_pure, Result.andThen_ok]
      cases hs : isShift op with
      | true =>
        rw [hs] at hl
        obtain ⟨h1, h2⟩ := side_spec hl ho
        refine ⟨?_, ?_⟩
        · rw [run_lshift h1 h2]
          cases op <;> first | (cases h1; done) | (cases h1; rfl)
        · cases op <;> first | (cases h1; done) | (cases h1; rfl)
      | false =>
        rw [hs] at hl
        simp only [cond_false] at hl
        cases hk : decide (k = k') with
        | false => rw [hk] at hl; cases hl
        | true =>
          rw [hk] at hl
          have := of_decide_eq_true hk
          subst this
          simp only [cond_true] at hl
          cases hd : isDiv op with
          | true =>
            rw [hd] at hl
            obtain ⟨h1, h2⟩ := side_spec hl ho
            refine ⟨?_, ?_⟩
            · rw [run_ldiv h1 h2]
              cases op <;> first | (cases h1; done) | (cases h1; rfl)
            · cases op <;> first | (cases h1; done) | (cases h1; rfl)
          | false =>
            rw [hd] at hl
            simp only [cond_false] at hl
            cases h1 : lint op k a b with
            | none => rw [h1] at hl; cases hl
            | some u =>
              rw [h1] at hl
              cases hl
              refine ⟨?_, ?_⟩
              · rw [run_lint h1 hs hd]
                cases op <;> first | (cases h1; done) | (cases h1; rfl)
              · cases op <;> first | (cases h1; done) | (cases h1; rfl)
    | _ => cases hl
  | bool a =>
    simp only at hl
    cases y with
    | bool b =>
      simp only at hl
      cases hu : P.underlying t with
      | none => rw [hu] at hl; cases op <;> cases hl
      | some d =>
        rw [hu] at hl
        cases d <;> cases op <;> first | (cases hl; done) | skip
        · cases hl
          exact ⟨by simp [tr_bool, eqGuard_at_bool, run_eql_bool w t a b hu], rfl⟩
        · cases hl
          exact ⟨by simp [tr_bool, eqGuard_at_bool, run_neq_bool w t a b hu], rfl⟩
    | _ => cases hl
  | string a =>
    simp only at hl
    cases y with
    | string b =>
      simp only at hl
      simp only [tr_string, eqGuard_at_string, Sem.run_bind, Sem.run_pure, Result.andThen_ok]
      cases op <;> first | (cases hl; done) | skip
      case add =>
        obtain ⟨h1, h2⟩ := side_spec hl ho
        cases h1
        have : ¬ (((a.size + b.size : Nat) : Int) > IntKind.i64.max) := by rw [IntKind.max_i64]; omega
        exact ⟨by simp only [Go.binOp, Op.stringOp, if_neg this]; rfl, rfl⟩
      all_goals
        cases hl
        exact ⟨by simp [Go.binOp, Op.stringOp, tr_bool], rfl⟩
    | _ => cases hl
  | agg xs =>
    simp only at hl
    cases y with
    | agg ys =>
      simp only at hl
      cases hg : P.eqGuardType P.depth t with
      | true => rw [hg] at hl; cases hl
      | false =>
        rw [hg] at hl
        simp only [cond_false] at hl
        cases hr : lcellsEq P 20 t (.agg xs) (.agg ys) with
        | none => rw [hr] at hl; cases op <;> cases hl
        | some r =>
          rw [hr] at hl
          have e := run_cellsEq (P := P) (h := h) (ρ := ρ) 20 10000 (by omega) t (.agg xs) (.agg ys) r hx hy hr w
          have ex : tr ρ (.agg xs) = .agg ⟨xs.toList.map (tr1 ρ)⟩ := rfl
          have ey : tr ρ (.agg ys) = .agg ⟨ys.toList.map (tr1 ρ)⟩ := rfl
          rw [ex, ey] at e ⊢
          cases op <;> first | (cases hl; done) | skip
          · cases hl
            refine ⟨?_, rfl⟩
            simp only [Sem.run_bind, run_eqGuard_agg w .eql t px py _ _ hg, Result.andThen_ok, run_eql_struct, e, tr_bool]
          · cases hl
            refine ⟨?_, rfl⟩
            simp only [Sem.run_bind, run_eqGuard_agg w .neq t px py _ _ hg, Result.andThen_ok, run_neq_struct, e, tr_bool]
    | _ => cases hl
  | slice a n c =>
    simp only at hl
    cases y with
    | slice a2 n2 c2 =>
      cases a2 with
      | some a2 => cases hl
      | none =>
        simp only at hl
        cases hu : P.underlying t with
        | none => rw [hu] at hl; cases hl
        | some d =>
          rw [hu] at hl
          cases d <;> first | (cases hl; done) | skip
          rename_i e0
          cases hn : lnil h (.slice a n c) with
          | none => rw [hn] at hl; cases op <;> cases hl
          | some r =>
            rw [hn] at hl
            obtain ⟨a', n', c', e1, e2⟩ := run_lnil hi hn
            have e3 : tr ρ (.slice none n2 c2) = .slice none n2 c2 := rfl
            have e4 := run_equal_slice_nil (P := P) hu a' n' c' n2 c2 w
            rw [e2] at e4
            rw [e1, e3]
            cases op <;> first | (cases hl; done) | skip
            · cases hl
              exact ⟨by simp [eqGuard_at_slice, Go.binOp, e4, tr_bool], rfl⟩
            · cases hl
              exact ⟨by simp [eqGuard_at_slice, Go.binOp, e4, tr_bool], rfl⟩
    | _ => cases hl
  | pointer a =>
    simp only at hl
    cases y with
    | pointer a2 =>
      cases a2 with
      | some a2 => cases hl
      | none =>
        simp only at hl
        cases hu : P.underlying t with
        | none => rw [hu] at hl; cases hl
        | some d =>
          rw [hu] at hl
          cases d <;> first | (cases hl; done) | skip
          rename_i e0
          have e0' : P.underlying t = some (.pointer (P.pointee t)) := by simp [Program.pointee, hu]
          have e3 : tr ρ (.pointer none) = .pointer none := rfl
          cases a with
          | none =>
            simp only [lnil] at hl
            cases op <;> first | (cases hl; done) | skip
            · cases hl
              exact ⟨by simp [e3, eqGuard_at_pointer, run_eql_pointer_nil w t none e0', tr_bool], rfl⟩
            · cases hl
              exact ⟨by simp [e3, eqGuard_at_pointer, run_neq_pointer_nil w t none e0', tr_bool], rfl⟩
          | some ad =>
            obtain ⟨i, o, s⟩ := ad
            have hb : isBorn h i = true := by
              have : wf0 h (.pointer (some ⟨i, o, s⟩)) = true := hx
              simp only [wf0, Bool.and_eq_true] at this
              exact this.1
            obtain ⟨l, hl'⟩ := hi.loc hb
            have e1 : tr ρ (.pointer (some ⟨i, o, s⟩)) = .pointer (some ⟨l.block, l.off + o, none⟩) := by simp [tr, tr2, tr1, tr0, hl']
            rw [e1, e3]
            simp only [lnil] at hl
            cases op <;> first | (cases hl; done) | skip
            · cases hl
              exact ⟨by simp [eqGuard_at_pointer, run_eql_pointer_nil w t _ e0', tr_bool], rfl⟩
            · cases hl
              exact ⟨by simp [eqGuard_at_pointer, run_neq_pointer_nil w t _ e0', tr_bool], rfl⟩
    | _ => cases hl
  | _ => cases hl

end Go.LE
