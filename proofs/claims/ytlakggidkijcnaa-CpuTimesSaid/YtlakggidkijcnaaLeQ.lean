import Derived.Test.YtlakggidkijcnaaLeS
set_option linter.all false
/- Functions: arguments and results. -/
namespace Go.LE
open Go

section
variable {P : Program} {N : Nat}

/-! ### functions -/
def argTm : Nat → List Value → Tm
  | _, [] => []
  | i, v :: l => (i, v) :: argTm (i + 1) l

def resOf (P : Program) (tm : Tm) (h : Heap) : List ResultVar → Option (List Value)
  | [] => some []
  | .tmp t :: l =>
    match look tm t, resOf P tm h l with
    | some v, some r => some (v :: r)
    | _, _ => none
  | .cell a t :: l =>
    match look tm a with
    | some x =>
      match lload P h none t x, resOf P tm h l with
      | some (v, []), some r => some (v :: r)
      | _, _ => none
    | none => none

def resV : List Value → Option Value
  | [v] => some v
  | l => bif l.all isWf2 then some (.tuple ⟨l⟩) else none

theorem argTm_look : ∀ (l : List Value) (i t : Nat) (v : Value), look (argTm i l) t = some v → i ≤ t ∧ l[t - i]? = some v
  | [], _, _, _, h => by cases h
  | u :: l, i, t, v, h => by
    simp only [argTm, look] at h
    cases hb : Nat.beq i t with
    | true =>
      rw [hb] at h
      cases h
      have := Nat.eq_of_beq_eq_true hb
      subst this
      exact ⟨Nat.le_refl _, by simp⟩
    | false =>
      rw [hb] at h
      obtain ⟨h1, h2⟩ := argTm_look l (i + 1) t v h
      refine ⟨by omega, ?_⟩
      rw [show t - i = (t - (i + 1)) + 1 by omega]
      simpa using h2

def resOne (tmps : Array Value) : ResultVar → Sem Value
  | .tmp t => pure (tmps.getD t undef)
  | .cell a t => do loadVar t (← asAddr (tmps.getD a undef))

theorem results_eq (fn : Func) (tmps : Array Value) : results fn tmps = (do let vs ← fn.results.mapM (resOne tmps); pure (if h : vs.size = 1 then vs[0] else .tuple vs)) := by
  unfold results
  congr 1

theorem resOf_run {base : Nat} {ds : List Deferred} {h : Heap} {ρ : Rho} {tm : Tm} {a : Act} {w : World} (r : Rel base N ds h ρ tm a w) : ∀ {l : List ResultVar} {vs : List Value}, resOf P tm h l = some vs →
    (l.mapM (resOne a.tmps)).run P w = .ok (vs.map (tr ρ)) w ∧ ∀ v ∈ vs, wf h v = true
  | [], vs, hr => by cases hr; exact ⟨by simp, by simp⟩
  | .tmp t :: l, vs, hr => by
    unfold resOf at hr
    cases h1 : look tm t with
    | none => rw [h1] at hr; cases hr
    | some v =>
      cases h2 : resOf P tm h l with
      | none => rw [h1, h2] at hr; cases hr
      | some q =>
        rw [h1, h2] at hr
        cases hr
        obtain ⟨i1, i2⟩ := resOf_run r h2
        obtain ⟨j1, j2⟩ := r.tmp t v h1
        refine ⟨?_, fun x hx => ?_⟩
        · simp only [List.mapM_cons, resOne, Sem.run_bind, Sem.run_pure, Result.andThen_ok, List.map_cons]
          rw [i1]
          simp only [Result.andThen_ok]
          have : a.tmps.getD t undef = tr ρ v := by simp [j1]
          rw [this]
        · rcases List.mem_cons.1 hx with h | h
          · rw [h]; exact j2
          · exact i2 x h
  | .cell x t :: l, vs, hr => by
    unfold resOf at hr
    cases h1 : look tm x with
    | none => rw [h1] at hr; cases hr
    | some u =>
      rw [h1] at hr
      simp only at hr
      cases h2 : lload P h none t u with
      | none => rw [h2] at hr; cases hr
      | some q =>
        obtain ⟨v, obs⟩ := q
        cases obs with
        | cons p q => rw [h2] at hr; cases hr
        | nil =>
          cases h3 : resOf P tm h l with
          | none => rw [h2, h3] at hr; cases hr
          | some q =>
            rw [h2, h3] at hr
            cases hr
            obtain ⟨i1, i2⟩ := resOf_run r h3
            obtain ⟨j1, j2⟩ := r.tmp x u h1
            obtain ⟨ad, k1, k2, k3⟩ := run_lload (P := P) r.inv h2 trivial
            refine ⟨?_, fun y hy => ?_⟩
            · have : a.tmps.getD x undef = .pointer (some ad) := by simp [j1, k1]
              have hA : (asAddr (.pointer (some ad))).run P w = .ok ad w := rfl
              simp only [List.mapM_cons, resOne, Sem.run_bind, this, hA, Sem.run_pure, Result.andThen_ok, k2, List.map_cons]
              rw [i1]
              rfl
            · rcases List.mem_cons.1 hy with h | h
              · rw [h]; exact k3
              · exact i2 y h

theorem resV_ok {h : Heap} {ρ : Rho} {l : List Value} {v : Value} (hr : resV l = some v) (hw : ∀ v ∈ l, wf h v = true) :
    (if h : (⟨l.map (tr ρ)⟩ : Array Value).size = 1 then (⟨l.map (tr ρ)⟩ : Array Value)[0] else .tuple ⟨l.map (tr ρ)⟩) = tr ρ v ∧ wf h v = true := by
  unfold resV at hr
  split at hr
  · cases hr
    exact ⟨by simp, hw _ (by simp)⟩
  · rename_i hne
    cases hc : l.all isWf2 with
    | false => rw [hc] at hr; cases hr
    | true =>
      rw [hc] at hr
      cases hr
      have hw2 : ∀ v ∈ l, wf2 h v = true := fun v hv => wf2_of (List.all_eq_true.1 hc v hv) (hw v hv)
      refine ⟨?_, List.all_eq_true.2 hw2⟩
      have hs : ¬ (⟨l.map (tr ρ)⟩ : Array Value).size = 1 := by
        intro h1
        simp only [List.size_toArray, List.length_map] at h1
        match l, h1 with
        | [x], _ => exact hne x rfl
      rw [dif_neg hs]
      show Value.tuple ⟨l.map (tr ρ)⟩ = Value.tuple ⟨l.map (tr2 ρ)⟩
      congr 2
      exact List.map_congr_left fun v hv => tr_of_wf2 (hw2 v hv)

end
theorem cast_of {p q : Prop} (h : p = q) (x : p) : q := h ▸ x
end Go.LE
