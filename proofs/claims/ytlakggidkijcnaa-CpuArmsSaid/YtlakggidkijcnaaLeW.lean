import Derived.Test.YtlakggidkijcnaaLeU
set_option linter.all false
/- Rounds, each of which leaves the memory in the same order. -/
namespace Go.LE
open Go

/-- From now on, for whoever began with at most n0 blocks. -/
def Past (base n0 : Nat) (h : Heap) (ρ : Rho) (w : World) (h' : Heap) (ρ' : Rho) (w' : World) : Prop :=
  ∀ (h0 : Heap) (ρ0 : Rho) (w0 : World), h0.length ≤ n0 → Moves base h0 ρ0 w0 h ρ w → Moves base h0 ρ0 w0 h' ρ' w'

theorem Past.of {base n0 : Nat} {h : Heap} {ρ : Rho} {w : World} {h' : Heap} {ρ' : Rho} {w' : World} (m : Moves base h ρ w h' ρ' w') : Past base n0 h ρ w h' ρ' w' :=
  fun _ _ _ _ m0 => m0.trans m

theorem Past.trans {base n0 : Nat} {h h1 h2 : Heap} {ρ ρ1 ρ2 : Rho} {w w1 w2 : World} (a : Past base n0 h ρ w h1 ρ1 w1) (b : Past base n0 h1 ρ1 w1 h2 ρ2 w2) : Past base n0 h ρ w h2 ρ2 w2 :=
  fun h0 ρ0 w0 hl m0 => b h0 ρ0 w0 hl (a h0 ρ0 w0 hl m0)

def LCodeP (P : Program) (N n0 : Nat) (c : Code) (tm : Tm) (h : Heap) (e : Ex) (tm' : Tm) (h' : Heap) : Prop :=
  ∀ base ds ρ a w, Rel base N ds h ρ tm a w → c.wp P (fun e' a' w' => e' = e.to ∧ ∃ ρ', Past base n0 h ρ w h' ρ' w' ∧ Rel base N ds h' ρ' tm' a' w') a w

section
variable {P : Program} {N n0 : Nat}

theorem LCodeP.of {c : Code} {tm tm' : Tm} {h h' : Heap} {e : Ex} (hc : LCode P N c tm h e tm' h') : LCodeP P N n0 c tm h e tm' h' := by
  intro base ds ρ a w r
  refine wp_mono (hc base ds ρ a w r) ?_
  rintro e' a' w' ⟨he, ρ', m, r'⟩
  exact ⟨he, ρ', Past.of m, r'⟩

theorem LCodeP.code {c : Code} {tm tm' : Tm} {h h' : Heap} {e : Ex} (hn : h.length ≤ n0) (hc : LCodeP P N n0 c tm h e tm' h') : LCode P N c tm h e tm' h' := by
  intro base ds ρ a w r
  refine wp_mono (hc base ds ρ a w r) ?_
  rintro e' a' w' ⟨he, ρ', m, r'⟩
  exact ⟨he, ρ', m h ρ w hn (Moves.refl r.inv), r'⟩

/-- Slots that are kept, renamed. -/
def outTm (σ : List Nat) (tm : Tm) : List Nat → Option Tm
  | [] => some []
  | t :: l =>
    match look tm t, outTm σ tm l with
    | some v, some r =>
      match inv σ v with
      | some u => some ((t, u) :: r)
      | none => none
    | _, _ => none

theorem outTm_look {σ : List Nat} {tm : Tm} : ∀ {l : List Nat} {r : Tm}, outTm σ tm l = some r → ∀ t u, look r t = some u → ∃ v, look tm t = some v ∧ inv σ v = some u
  | [], r, h, t, u, hu => by cases h; cases hu
  | k :: l, r, h, t, u, hu => by
    unfold outTm at h
    cases h1 : look tm k with
    | none => rw [h1] at h; cases h
    | some v =>
      cases h2 : outTm σ tm l with
      | none => rw [h1, h2] at h; cases h
      | some q =>
        rw [h1, h2] at h
        simp only at h
        cases h3 : inv σ v with
        | none => rw [h3] at h; cases h
        | some u' =>
          rw [h3] at h
          cases h
          simp only [look] at hu
          cases hb : Nat.beq k t with
          | true =>
            rw [hb] at hu
            cases hu
            have := Nat.eq_of_beq_eq_true hb
            subst this
            exact ⟨v, h1, h3⟩
          | false =>
            rw [hb] at hu
            exact outTm_look h2 t u hu

theorem LCodeP.rename {c : Code} {tm tm1 tm2 : Tm} {h h1 hs : Heap} {e : Ex} {out : List (Nat × Bool)} {obs : List Prop} {keep : List Nat} (hc : LCodeP P N n0 c tm h e tm1 h1) (hn : nodupB (out.map (·.1)) = true) (hf : fixed n0 (out.map (·.1)) = true)
    (hd : smallD h1 (out.map (·.1)) out = some (hs, obs)) (ho : All obs) (ht : outTm (out.map (·.1)) tm1 keep = some tm2) : LCodeP P N n0 c tm h e tm2 hs := by
  intro base ds ρ a w r
  refine wp_mono (hc base ds ρ a w r) ?_
  rintro e' a' w' ⟨he, ρ', m, r'⟩
  obtain ⟨part, hborn⟩ := PartD.of hn hd ho r'.inv.wfHeap
  refine ⟨he, pick ρ' (out.map (·.1)), fun h0 ρ0 w0 hl m0 => (m h0 ρ0 w0 hl m0).out part (fun i hi => fixed_ok hf i (by omega)), { inv := part.inv r'.inv, size := r'.size, defers := r'.defers, tmp := fun t u hu => ?_ }⟩
  obtain ⟨v, hv, hi⟩ := outTm_look ht t u hu
  obtain ⟨q1, q2⟩ := r'.tmp t v hv
  obtain ⟨i1, i2⟩ := inv_ok (H := h1) hborn hi q2
  refine ⟨?_, i2⟩
  rw [q1, ← (tie (part.ties r'.inv) u i2).1, i1]

theorem LCodeP.seq {x y : Code} {tm tm1 tm2 : Tm} {h h1 h2 : Heap} {e : Ex} (hx : LCodeP P N n0 x tm h .normal tm1 h1) (hy : LCodeP P N n0 y tm1 h1 e tm2 h2) : LCodeP P N n0 (.seq x y) tm h e tm2 h2 := by
  intro base ds ρ a w r
  refine wp_seq (wp_mono (hx base ds ρ a w r) ?_)
  rintro e1 a1 w1 ⟨he, ρ1, m1, r1⟩
  subst he
  refine wp_mono (hy base ds ρ1 a1 w1 r1) ?_
  rintro e2 a2 w2 ⟨he, ρ2, m2, r2⟩
  exact ⟨he, ρ2, m1.trans m2, r2⟩

theorem LCodeP.seq_out {x y : Code} {tm tm1 : Tm} {h h1 : Heap} {e : Ex} (hx : LCodeP P N n0 x tm h e tm1 h1) (he : e ≠ .normal) : LCodeP P N n0 (.seq x y) tm h e tm1 h1 := by
  intro base ds ρ a w r
  refine wp_seq (wp_mono (hx base ds ρ a w r) ?_)
  rintro e1 a1 w1 ⟨rfl, ρ1, m1, r1⟩
  cases e with
  | normal => exact absurd rfl he
  | exit id => exact ⟨rfl, ρ1, m1, r1⟩
  | ret => exact ⟨rfl, ρ1, m1, r1⟩

theorem LCodeP.cond {c : Operand} {x y : Code} {b : Bool} {tm tm1 : Tm} {h h1 : Heap} {e : Ex} (hc : lev tm c = some (.bool b)) (hx : LCodeP P N n0 (if b then x else y) tm h e tm1 h1) : LCodeP P N n0 (.cond c x y) tm h e tm1 h1 := by
  intro base ds ρ a w r
  have h1 := (r.eval hc).1
  exact wp_cond (t := b) h1 (hx base ds ρ a w r)

theorem LCodeP.block {id : Nat} {c : Code} {tm tm1 : Tm} {h h1 : Heap} {e : Ex} (hx : LCodeP P N n0 c tm h e tm1 h1) (he : e ≠ .exit id) : LCodeP P N n0 (.block id c) tm h e tm1 h1 := by
  intro base ds ρ a w r
  refine wp_block (wp_mono (hx base ds ρ a w r) ?_)
  rintro e1 a1 w1 ⟨rfl, ρ1, m1, r1⟩
  cases e with
  | normal => exact ⟨rfl, ρ1, m1, r1⟩
  | ret => exact ⟨rfl, ρ1, m1, r1⟩
  | exit i =>
    have : i ≠ id := fun h => he (by rw [h])
    simp only [Ex.to, Exit.inBlock, this, if_false]
    exact ⟨trivial, ρ1, m1, r1⟩

theorem LCodeP.block_exit {id : Nat} {c : Code} {tm tm1 : Tm} {h h1 : Heap} (hx : LCodeP P N n0 c tm h (.exit id) tm1 h1) : LCodeP P N n0 (.block id c) tm h .normal tm1 h1 := by
  intro base ds ρ a w r
  refine wp_block (wp_mono (hx base ds ρ a w r) ?_)
  rintro e1 a1 w1 ⟨rfl, ρ1, m1, r1⟩
  simp only [Ex.to, Exit.inBlock, if_true]
  exact ⟨trivial, ρ1, m1, r1⟩

theorem LCodeP.less {c : Code} {tm tm0 tm1 : Tm} {h h1 : Heap} {e : Ex} (hc : LCodeP P N n0 c tm0 h e tm1 h1) (hsub : ∀ t v, look tm0 t = some v → look tm t = some v) : LCodeP P N n0 c tm h e tm1 h1 :=
  fun base ds ρ a w r => hc base ds ρ a w { r with tmp := fun t v hv => r.tmp t v (hsub t v hv) }

/-! ### rounds -/
inductive LRoundsP (P : Program) (N n0 : Nat) (c : Code) : Tm → Heap → Ex → Tm → Heap → Prop where
  | out {tm tm1 : Tm} {h h1 : Heap} {e : Ex} (hx : LCodeP P N n0 c tm h e tm1 h1) (he : e ≠ .normal) : LRoundsP P N n0 c tm h e tm1 h1
  | next {tm tm1 tm2 : Tm} {h h1 h2 : Heap} {e : Ex} (hx : LCodeP P N n0 c tm h .normal tm1 h1) (hr : LRoundsP P N n0 c tm1 h1 e tm2 h2) : LRoundsP P N n0 c tm h e tm2 h2

theorem LRoundsP.loop {c : Code} {tm tm1 : Tm} {h h1 : Heap} {e : Ex} (hr : LRoundsP P N n0 c tm h e tm1 h1) : LCodeP P N n0 (.loop c) tm h e tm1 h1 := by
  have key : ∃ n, ∀ base ds h0 ρ0 w0 ρ a w, Past base n0 h0 ρ0 w0 h ρ w → Rel base N ds h ρ tm a w →
      Code.rounds P c (fun e' a' w' => e' = e.to ∧ ∃ ρ', Past base n0 h0 ρ0 w0 h1 ρ' w' ∧ Rel base N ds h1 ρ' tm1 a' w') n a w := by
    induction hr with
    | out hx he =>
      rename_i e
      refine ⟨1, fun base ds h0 ρ0 w0 ρ a w m r => wp_mono (hx base ds ρ a w r) ?_⟩
      rintro e1 a1 w1 ⟨rfl, ρ1, m1, r1⟩
      cases e with
      | normal => exact absurd rfl he
      | exit id => exact ⟨rfl, ρ1, m.trans m1, r1⟩
      | ret => exact ⟨rfl, ρ1, m.trans m1, r1⟩
    | next hx hr ih =>
      obtain ⟨n, hn⟩ := ih
      refine ⟨n + 1, fun base ds h0 ρ0 w0 ρ a w m r => wp_mono (hx base ds ρ a w r) ?_⟩
      rintro e1 a1 w1 ⟨rfl, ρ1, m1, r1⟩
      exact hn base ds h0 ρ0 w0 ρ1 a1 w1 (m.trans m1) r1
  intro base ds ρ a w r
  obtain ⟨n, hn⟩ := key
  exact wp_loop_rounds n (hn base ds h ρ w ρ a w (fun _ _ _ _ m => m) r)

/-- Rounds of a function. -/
def rounds {σ ω : Type} (K : σ → Option (σ ⊕ ω)) : Nat → σ → Option ω
  | 0, _ => none
  | n + 1, s =>
    match K s with
    | some (.inl s') => rounds K n s'
    | some (.inr o) => some o
    | none => none

theorem rounds_ok {σ ω : Type} {c : Code} (K : σ → Option (σ ⊕ ω)) (tmS : σ → Tm) (hS : σ → Heap) (ex : ω → Ex) (tmO : ω → Tm) (hO : ω → Heap) (hex : ∀ o, ex o ≠ .normal)
    (hn : ∀ s s', K s = some (.inl s') → LCodeP P N n0 c (tmS s) (hS s) .normal (tmS s') (hS s'))
    (ho : ∀ s o, K s = some (.inr o) → LCodeP P N n0 c (tmS s) (hS s) (ex o) (tmO o) (hO o)) :
    ∀ (n : Nat) (s : σ) (o : ω), rounds K n s = some o → LCodeP P N n0 (.loop c) (tmS s) (hS s) (ex o) (tmO o) (hO o) := by
  intro n s o h
  refine LRoundsP.loop ?_
  induction n generalizing s with
  | zero => cases h
  | succ n ih =>
    unfold rounds at h
    cases hk : K s with
    | none => rw [hk] at h; cases h
    | some r =>
      rw [hk] at h
      cases r with
      | inl s' => exact .next (hn s s' hk) (ih s' h)
      | inr o' => cases h; exact .out (ho s o hk) (hex o)

end
end Go.LE
