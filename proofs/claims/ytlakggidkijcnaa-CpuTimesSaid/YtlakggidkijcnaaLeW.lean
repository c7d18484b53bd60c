import Derived.Test.YtlakggidkijcnaaLeU
set_option linter.all false
/- Rounds, each of which leaves the memory in the same order. -/
namespace Go.LE
open Go

/-- From now on, for whoever began with at most n0 blocks. -/
def Past (base n0 : Nat) (h : Heap) (ρ : Rho) (w : World) (h' : Heap) (ρ' : Rho) (w' : World) : Prop :=
  ∀ (h0 : Heap) (ρ0 : Rho) (w0 : World), h0.length ≤ n0 → Moves base h0 ρ0 w0 h ρ w → Moves base h0 ρ0 w0 h' ρ' w'

theorem Past.of {base n0 : Nat} {h : Heap} {ρ : Rho} {w : World} {h' : Heap} {ρ' : Rho} {w' : World} (m : Moves base h ρ w h' ρ' w') : Past base n0 h ρ w h' ρ' w' :=
  fun _ _ _ _ m0 => m0.trans m

theorem Past.trans {base n0 : Nat} {h h1 h2 : Heap} {ρ ρ1 ρ2 : Rho} {w w1 w2 : World} (a : Past base n0 h ρ w h1 ρ1 w1) (b : Past base n0 h1 ρ1 w1 h2 ρ2 w2) : Past base n0 h ρ w h2 ρ2 w2 :=
  fun h0 ρ0 w0 hl m0 => b h0 ρ0 w0 hl (a h0 ρ0 w0 hl m0)

def LCodeP (P : Program) (N n0 : Nat) (c : Code) (tm : Tm) (h : Heap) (e : Ex) (tm' : Tm) (h' : Heap) : Prop :=
  ∀ base ds ρ a w, Rel base N ds h ρ tm a w → c.wp P (fun e' a' w' => e' = e.to ∧ ∃ ρ', Past base n0 h ρ w h' ρ' w' ∧ Rel base N ds h' ρ' tm' a' w') a w

section
variable {P : Program} {N n0 : Nat}

theorem LCodeP.of {c : Code} {tm tm' : Tm} {h h' : Heap} {e : Ex} (hc : LCode P N c tm h e tm' h') : LCodeP P N n0 c tm h e tm' h' := by
  intro base ds ρ a w r
  refine wp_mono (hc base ds ρ a w r) ?_
  rintro e' a' w' ⟨he, ρ', m, r'⟩
  exact ⟨he, ρ', Past.of m, r'⟩

theorem LCodeP.code {c : Code} {tm tm' : Tm} {h h' : Heap} {e : Ex} (hn : h.length ≤ n0) (hc : LCodeP P N n0 c tm h e tm' h') : LCode P N c tm h e tm' h' := by
  intro base ds ρ a w r
  refine wp_mono (hc base ds ρ a w r) ?_
  rintro e' a' w' ⟨he, ρ', m, r'⟩
  exact ⟨he, ρ', m h ρ w hn (Moves.refl r.inv), r'⟩

/-- Slots that are kept, renamed. -/
def outTm (σ : List Nat) (tm : Tm) : List Nat → Option Tm
  | [] => some []
  | t :: l =>
    match look tm t, outTm σ tm l with
    | some v, some r =>
      match inv σ v with
      | some u => some ((t, u) :: r)
      | none => none
    | _, _ => none

theorem outTm_look {σ : List Nat} {tm : Tm} : ∀ {l : List Nat} {r : Tm}, outTm σ tm l = some r → ∀ t u, look r t = some u → ∃ v, look tm t = some v ∧ inv σ v = some u
  | [], r, h, t, u, hu => by cases h; cases hu
  | k :: l, r, h, t, u, hu => by
    unfold outTm at h
    cases h1 : look tm k with
    | none => rw [h1] at h; cases h
    | some v =>
      cases h2 : outTm σ tm l with
      | none => rw [h1, h2] at h; cases h
      | some q =>
        rw [h1, h2] at h
        simp only at h
        cases h3 : inv σ v with
        | none => rw [h3] at h; cases h
        | some u' =>
          rw [h3] at h
          cases h
          simp only [look] at hu
          cases hb : Nat.beq k t with
          | true =>
            rw [hb] at hu
            cases hu
            have := Nat.eq_of_beq_eq_true hb
            subst this
            exact ⟨v, h1, h3⟩
          | false =>
            rw [hb] at hu
            exact outTm_look h2 t u hu

theorem LCodeP.rename {c : Code} {tm tm1 tm2 : Tm} {h h1 hs : Heap} {e : Ex} {out : List (Nat × Bool)} {obs : List Prop} {keep : List Nat} (hc : LCodeP P N n0 c tm h e tm1 h1) (hn : nodupB (out.map (·.1)) = true) (hf : fixed n0 (out.map (·.1)) = true)
    (hd : smallD h1 (out.map (·.1)) out = some (hs, obs)) (ho : All obs) (ht : outTm (out.map (·.1)) tm1 keep = some tm2) : LCodeP P N n0 c tm h e tm2 hs := by
  intro base ds ρ a w r
  refine wp_mono (hc base ds ρ a w r) ?_
  rintro e' a' w' ⟨he, ρ', m, r'⟩
  obtain ⟨part, hborn⟩ := PartD.of hn hd ho r'.inv.wfHeap
  refine ⟨he, pick ρ' (out.map (·.1)), fun h0 ρ0 w0 hl m0 => (m h0 ρ0 w0 hl m0).out part (fun i hi => fixed_ok hf i (by omega)), { inv := part.inv r'.inv, size := r'.size, defers := r'.defers, tmp := fun t u hu => ?_ }⟩
  obtain ⟨v, hv, hi⟩ := outTm_look ht t u hu
  obtain ⟨q1, q2⟩ := r'.tmp t v hv
  obtain ⟨i1, i2⟩ := inv_ok (H := h1) hborn hi q2
  refine ⟨?_, i2⟩
  rw [q1, ← (tie (part.ties r'.inv) u i2).1, i1]

theorem LCodeP.seq {x y : Code} {tm tm1 tm2 : Tm} {h h1 h2 : Heap} {e : Ex} (hx : LCodeP P N n0 x tm h .normal tm1 h1) (hy : LCodeP P N n0 y tm1 h1 e tm2 h2) : LCodeP P N n0 (.seq x y) tm h e tm2 h2 := by
  intro base ds ρ a w r
  refine wp_seq (wp_mono (hx base ds ρ a w r) ?_)
  rintro e1 a1 w1 ⟨he, ρ1, m1, r1⟩
  subst he
  refine wp_mono (hy base ds ρ1 a1 w1 r1) ?_
  rintro e2 a2 w2 ⟨he, ρ2, m2, r2⟩
  exact ⟨he, ρ2, m1.trans m2, r2⟩

theorem LCodeP.seq_out {x y : Code} {tm tm1 : Tm} {h h1 : Heap} {e : Ex} (hx : LCodeP P N n0 x tm h e tm1 h1) (he : e ≠ .normal) : LCodeP P N n0 (.seq x y) tm h e tm1 h1 := by
  intro base ds ρ a w r
  refine wp_seq (wp_mono (hx base ds ρ a w r) ?_)
  rintro e1 a1 w1 ⟨rfl, ρ1, m1, r1⟩
  cases e with
  | normal => exact absurd rfl he
  | exit id => exact ⟨rfl, ρ1, m1, r1⟩
  | ret => exact ⟨rfl, ρ1, m1, r1⟩

theorem LCodeP.cond {c : Operand} {x y : Code} {b : Bool} {tm tm1 : Tm} {h h1 : Heap} {e : Ex} (hc : lev tm c = some (.bool b)) (hx : LCodeP P N n0 (if b then x else y) tm h e tm1 h1) : LCodeP P N n0 (.cond c x y) tm h e tm1 h1 := by
  intro base ds ρ a w r
  have h1 := (r.eval hc).1
  exact wp_cond (t := b) h1 (hx base ds ρ a w r)

theorem LCodeP.block {id : Nat} {c : Code} {tm tm1 : Tm} {h h1 : Heap} {e : Ex} (hx : LCodeP P N n0 c tm h e tm1 h1) (he : e ≠ .exit id) : LCodeP P N n0 (.block id c) tm h e tm1 h1 := by
  intro base ds ρ a w r
  refine wp_block (wp_mono (hx base ds ρ a w r) ?_)
  rintro e1 a1 w1 ⟨rfl, ρ1, m1, r1⟩
  cases e with
  | normal => exact ⟨rfl, ρ1, m1, r1⟩
  | ret => exact ⟨rfl, ρ1, m1, r1⟩
  | exit i =>
    have : i ≠ id := fun h => he (by rw [h])
    simp only [Ex.to, Exit.inBlock, this, if_false]
    exact ⟨trivial, ρ1, m1, r1⟩

theorem LCodeP.block_exit {id : Nat} {c : Code} {tm tm1 : Tm} {h h1 : Heap} (hx : LCodeP P N n0 c tm h (.exit id) tm1 h1) : LCodeP P N n0 (.block id c) tm h .normal tm1 h1 := by
  intro base ds ρ a w r
  refine wp_block (wp_mono (hx base ds ρ a w r) ?_)
  rintro e1 a1 w1 ⟨rfl, ρ1, m1, r1⟩
  simp only [Ex.to, Exit.inBlock, if_true]
  exact ⟨trivial, ρ1, m1, r1⟩

theorem LCodeP.less {c : Code} {tm tm0 tm1 : Tm} {h h1 : Heap} {e : Ex} (hc : LCodeP P N n0 c tm0 h e tm1 h1) (hsub : ∀ t v, look tm0 t = some v → look tm t = some v) : LCodeP P N n0 c tm h e tm1 h1 :=
  fun base ds ρ a w r => hc base ds ρ a w { r with tmp := fun t v hv => r.tmp t v (hsub t v hv) }

/-- What is done ahead: the memory told in another way. -/
theorem LCodeP.pre {c : Code} {tm tm1 tm2 : Tm} {h h1 h2 : Heap} {e : Ex} (hp : ∀ base ds ρ a w, Rel base N ds h ρ tm a w → ∃ ρ', Past base n0 h ρ w h1 ρ' w ∧ Rel base N ds h1 ρ' tm1 a w) (hc : LCodeP P N n0 c tm1 h1 e tm2 h2) : LCodeP P N n0 c tm h e tm2 h2 := by
  intro base ds ρ a w r
  obtain ⟨ρ1, m1, r1⟩ := hp base ds ρ a w r
  refine wp_mono (hc base ds ρ1 a w r1) ?_
  rintro e1 a1 w1 ⟨he, ρ2, m2, r2⟩
  exact ⟨he, ρ2, m1.trans m2, r2⟩

theorem pre_trim {tm tm2 : Tm} {h hs : Heap} {out : List (Nat × Bool)} {obs : List Prop} {keep : List Nat} (hn : nodupB (out.map (·.1)) = true) (hf : fixed n0 (out.map (·.1)) = true)
    (hd : smallD h (out.map (·.1)) out = some (hs, obs)) (ho : All obs) (ht : outTm (out.map (·.1)) tm keep = some tm2) (base : Nat) (ds : List Deferred) (ρ : Rho) (a : Act) (w : World) (r : Rel base N ds h ρ tm a w) :
    ∃ ρ', Past base n0 h ρ w hs ρ' w ∧ Rel base N ds hs ρ' tm2 a w := by
  obtain ⟨part, hborn⟩ := PartD.of hn hd ho r.inv.wfHeap
  refine ⟨pick ρ (out.map (·.1)), fun h0 ρ0 w0 hl m0 => m0.out part (fun i hi => fixed_ok hf i (by omega)), { inv := part.inv r.inv, size := r.size, defers := r.defers, tmp := fun t u hu => ?_ }⟩
  obtain ⟨v, hv, hi⟩ := outTm_look ht t u hu
  obtain ⟨q1, q2⟩ := r.tmp t v hv
  obtain ⟨i1, i2⟩ := inv_ok (H := h) hborn hi q2
  refine ⟨?_, i2⟩
  rw [q1, ← (tie (part.ties r.inv) u i2).1, i1]

/-- A slice that is nil, as a row without cells. -/
def setTm (tm : Tm) (t : Nat) (v : Value) : Tm :=
  match tm with
  | [] => []
  | (u, x) :: l => bif Nat.beq u t then (u, v) :: l else (u, x) :: setTm l t v
theorem setTm_look {v : Value} : ∀ {tm : Tm} {t u : Nat} {x : Value}, look (setTm tm t v) u = some x → (u = t ∧ x = v ∧ ∃ y, look tm t = some y) ∨ look tm u = some x
  | [], _, _, _, h => by cases h
  | (d, y) :: l, t, u, x, h => by
    unfold setTm at h
    cases hb : Nat.beq d t with
    | true =>
      rw [hb] at h
      have := Nat.eq_of_beq_eq_true hb
      subst this
      simp only [cond_true, look] at h
      cases hc : Nat.beq d u with
      | true =>
        rw [hc] at h
        cases h
        exact .inl ⟨(Nat.eq_of_beq_eq_true hc).symm, rfl, y, by simp [look, Nat.beq_refl]⟩
      | false => rw [hc] at h; exact .inr (by simp only [look, hc]; exact h)
    | false =>
      rw [hb] at h
      simp only [cond_false, look] at h
      cases hc : Nat.beq d u with
      | true => rw [hc] at h; exact .inr (by simp only [look, hc]; exact h)
      | false =>
        rw [hc] at h
        rcases setTm_look h with ⟨h1, h2, z, h3⟩ | h1
        · exact .inl ⟨h1, h2, z, by simp only [look, hb]; exact h3⟩
        · exact .inr (by simp only [look, hc]; exact h1)

def isNilS : Option Value → Bool
  | some (.slice none 0 0) => true
  | _ => false
theorem isNilS_ok {v : Option Value} (h : isNilS v = true) : v = some (.slice none 0 0) := by
  unfold isNilS at h
  split at h
  · rfl
  · cases h

def nilsTm : List (Nat × Nat × Nat) → Tm → Heap → Option (Tm × Heap)
  | [], tm, h => some (tm, h)
  | (t, e, z) :: l, tm, h => bif isNilS (look tm t) then nilsTm l (setTm tm t (.slice (some ⟨h.length, 0, none⟩) 0 0)) (h ++ [.live ⟨[], true, some (e, z)⟩]) else none

theorem pre_nil {base : Nat} {ds : List Deferred} {ρ : Rho} {a : Act} {w : World} {tm : Tm} {h : Heap} {t : Nat} {row : Option (Nat × Nat)} (r : Rel base N ds h ρ tm a w) (hl : look tm t = some (.slice none 0 0)) :
    Moves base h ρ w (h ++ [.live ⟨[], true, row⟩]) (ρ ++ [⟨true, 0, 0, 0, 0⟩]) w ∧ Rel base N ds (h ++ [.live ⟨[], true, row⟩]) (ρ ++ [⟨true, 0, 0, 0, 0⟩]) (setTm tm t (.slice (some ⟨h.length, 0, none⟩) 0 0)) a w := by
  have old : ∀ {i : Nat}, i < h.length → (h ++ [.live ⟨[], true, row⟩])[i]? = h[i]? := fun hi => List.getElem?_append_left hi
  have new : (h ++ [.live ⟨[], true, row⟩])[h.length]? = some (Sl.live ⟨[], true, row⟩) := by rw [List.getElem?_append_right (Nat.le_refl _)]; simp
  have rold : ∀ {i : Nat}, i < h.length → (ρ ++ [(⟨true, 0, 0, 0, 0⟩ : Loc)])[i]? = ρ[i]? := fun hi => List.getElem?_append_left (by rw [r.inv.len]; exact hi)
  have rnew : (ρ ++ [(⟨true, 0, 0, 0, 0⟩ : Loc)])[h.length]? = some ⟨true, 0, 0, 0, 0⟩ := by rw [List.getElem?_append_right (by rw [r.inv.len]; exact Nat.le_refl _), r.inv.len]; simp
  have two : ∀ {i : Nat} {s : Sl}, (h ++ [.live ⟨[], true, row⟩])[i]? = some s → i < h.length ∨ (i = h.length ∧ s = .live ⟨[], true, row⟩) := fun {i s} hi => by
    rcases Nat.lt_or_ge i h.length with hlt | hge
    · exact .inl hlt
    · have hlen := (List.getElem?_eq_some_iff.1 hi).1
      simp only [List.length_append, List.length_cons, List.length_nil] at hlen
      have : i = h.length := by omega
      subst this
      rw [new] at hi
      exact .inr ⟨rfl, (Option.some.inj hi).symm⟩
  have born : ∀ i, isBorn h i = true → isBorn (h ++ [.live ⟨[], true, row⟩]) i = true := fun i hi => by
    unfold isBorn at hi ⊢
    rw [old (born_lt hi)]
    exact hi
  have ext : ∀ i, isBorn h i = true → (ρ ++ [(⟨true, 0, 0, 0, 0⟩ : Loc)])[i]? = ρ[i]? := fun i hi => rold (born_lt hi)
  have inv : Inv base (h ++ [.live ⟨[], true, row⟩]) (ρ ++ [⟨true, 0, 0, 0, 0⟩]) w :=
    { len := by simp [r.inv.len]
      base_le := r.inv.base_le
      blk := fun i b hb => by
        rcases two hb with hi | ⟨rfl, hs⟩
        · rw [old hi] at hb
          obtain ⟨l, hl, hw, hc⟩ := r.inv.blk i b hb
          refine ⟨l, by rw [rold hi]; exact hl, fun v hv => wf1_mono born v (hw v hv), ?_⟩
          rcases hc with hc | ⟨h1, h2, h3, cs, e1, fr, h4, h5, h6, h7⟩ | ⟨h1, h2, h3, h4⟩
          · exact .inl hc
          · exact .inr (.inl ⟨h1, h2, h3, cs, e1, fr, h4, h5, h6, fun j v hj => by rw [tr1_congr ext v (hw v (List.mem_of_getElem? hj))]; exact h7 j v hj⟩)
          · exact .inr (.inr ⟨h1, h2, h3, fun j v hj => by rw [tr1_congr ext v (hw v (List.mem_of_getElem? hj))]; exact h4 j v hj⟩)
        · cases hs
          exact ⟨_, rnew, (fun v hv => by cases hv), .inl ⟨rfl, rfl, rfl⟩⟩
      apart := fun i j bi bj li lj hij h1 h2 o1 o2 r1 r2 n1 n2 => by
        rcases two h1 with hi | ⟨rfl, _⟩
        · rcases two h2 with hj | ⟨rfl, _⟩
          · rw [old hi] at h1; rw [old hj] at h2; rw [rold hi] at r1; rw [rold hj] at r2
            exact r.inv.apart i j bi bj li lj hij h1 h2 o1 o2 r1 r2 n1 n2
          · rw [rnew] at r2; cases r2; cases n2
        · rw [rnew] at r1; cases r1; cases n1 }
  refine ⟨{ born := born, ext := ext, inv := inv, os := rfl, tape := rfl, output := rfl, size := Nat.le_refl _, keep := fun _ _ _ => rfl, new := fun k ho => ?_, grow := fun i b' hb hi => ?_, len := by simp },
    { inv := inv, size := r.size, defers := r.defers, tmp := fun u x hu => ?_ }⟩
  · obtain ⟨i, b, l, h1, h2, h3, h4, h5⟩ := ho
    rcases two h1 with hi | ⟨rfl, _⟩
    · rw [old hi] at h1; rw [rold hi] at h3
      exact .inl ⟨i, b, l, h1, h2, h3, h4, h5⟩
    · rw [rnew] at h3; cases h3; cases h4
  · rw [old (born_lt hi)] at hb
    exact ⟨b', hb, rfl⟩
  · rcases setTm_look hu with ⟨rfl, rfl, _⟩ | hu
    · obtain ⟨q1, _⟩ := r.tmp u _ hl
      refine ⟨?_, ?_⟩
      · rw [q1]
        have e : tr (ρ ++ [(⟨true, 0, 0, 0, 0⟩ : Loc)]) (.slice (some ⟨h.length, 0, none⟩) 0 0) = .slice none 0 0 := by
          show tr0 (ρ ++ [(⟨true, 0, 0, 0, 0⟩ : Loc)]) (.slice (some ⟨h.length, 0, none⟩) 0 0) = .slice none 0 0
          simp only [tr0, rnew, if_true]
        rw [e]; rfl
      · show wf0 (h ++ [.live ⟨[], true, row⟩]) (.slice (some ⟨h.length, 0, none⟩) 0 0) = true
        simp only [wf0, isBorn, new, Option.isNone_none, Bool.and_self]
    · obtain ⟨q1, q2⟩ := r.tmp u x hu
      exact ⟨by rw [q1, tr_congr ext x q2], wf_mono born x q2⟩

theorem pre_nils : ∀ (l : List (Nat × Nat × Nat)) {tm tm2 : Tm} {h h2 : Heap}, nilsTm l tm h = some (tm2, h2) → ∀ (base : Nat) (ds : List Deferred) (ρ : Rho) (a : Act) (w : World), Rel base N ds h ρ tm a w →
    ∃ ρ', Past base n0 h ρ w h2 ρ' w ∧ Rel base N ds h2 ρ' tm2 a w
  | [], tm, tm2, h, h2, hn, base, ds, ρ, a, w, r => by cases hn; exact ⟨ρ, fun _ _ _ _ m => m, r⟩
  | (t, e, z) :: l, tm, tm2, h, h2, hn, base, ds, ρ, a, w, r => by
    unfold nilsTm at hn
    cases hb : isNilS (look tm t) with
    | false => rw [hb] at hn; cases hn
    | true =>
      rw [hb] at hn
      obtain ⟨m1, r1⟩ := pre_nil (row := some (e, z)) r (isNilS_ok hb)
      obtain ⟨ρ2, m2, r2⟩ := pre_nils l hn base ds _ a w r1
      exact ⟨ρ2, (Past.of m1).trans m2, r2⟩

/-- The state at a loop's head. -/
def enterL (n0 : Nat) (keep : List Nat) (out : List (Nat × Bool)) (nils : List (Nat × Nat × Nat)) (tm : Tm) (h : Heap) : Option (Tm × Heap × List Prop) :=
  bif nodupB (out.map (·.1)) && fixed n0 (out.map (·.1)) then
    match smallD h (out.map (·.1)) out, outTm (out.map (·.1)) tm keep with
    | some (hs, obs), some tm1 =>
      match nilsTm nils tm1 hs with
      | some (tm2, h2) => some (tm2, h2, obs)
      | none => none
    | _, _ => none
  else none

theorem enterL_ok {keep : List Nat} {out : List (Nat × Bool)} {nils : List (Nat × Nat × Nat)} {tm tm2 tm3 : Tm} {h h2 h3 : Heap} {obs : List Prop} {c : Code} {e : Ex} (he : enterL n0 keep out nils tm h = some (tm2, h2, obs)) (ho : All obs) (hc : LCodeP P N n0 c tm2 h2 e tm3 h3) :
    LCodeP P N n0 c tm h e tm3 h3 := by
  unfold enterL at he
  cases hb : (nodupB (out.map (·.1)) && fixed n0 (out.map (·.1))) with
  | false => rw [hb] at he; cases he
  | true =>
    rw [hb] at he
    simp only [cond_true] at he
    simp only [Bool.and_eq_true] at hb
    split at he
    · rename_i hs obs1 tm1 h1 h2'
      split at he
      · rename_i tm4 h4 h5
        cases he
        exact (hc.pre (pre_nils nils h5)).pre (pre_trim hb.1 hb.2 h1 ho h2')
      · cases he
    · cases he

/-! ### rounds -/
inductive LRoundsP (P : Program) (N n0 : Nat) (c : Code) : Tm → Heap → Ex → Tm → Heap → Prop where
  | out {tm tm1 : Tm} {h h1 : Heap} {e : Ex} (hx : LCodeP P N n0 c tm h e tm1 h1) (he : e ≠ .normal) : LRoundsP P N n0 c tm h e tm1 h1
  | next {tm tm1 tm2 : Tm} {h h1 h2 : Heap} {e : Ex} (hx : LCodeP P N n0 c tm h .normal tm1 h1) (hr : LRoundsP P N n0 c tm1 h1 e tm2 h2) : LRoundsP P N n0 c tm h e tm2 h2

theorem LRoundsP.loop {c : Code} {tm tm1 : Tm} {h h1 : Heap} {e : Ex} (hr : LRoundsP P N n0 c tm h e tm1 h1) : LCodeP P N n0 (.loop c) tm h e tm1 h1 := by
  have key : ∃ n, ∀ base ds h0 ρ0 w0 ρ a w, Past base n0 h0 ρ0 w0 h ρ w → Rel base N ds h ρ tm a w →
      Code.rounds P c (fun e' a' w' => e' = e.to ∧ ∃ ρ', Past base n0 h0 ρ0 w0 h1 ρ' w' ∧ Rel base N ds h1 ρ' tm1 a' w') n a w := by
    induction hr with
    | out hx he =>
      rename_i e
      refine ⟨1, fun base ds h0 ρ0 w0 ρ a w m r => wp_mono (hx base ds ρ a w r) ?_⟩
      rintro e1 a1 w1 ⟨rfl, ρ1, m1, r1⟩
      cases e with
      | normal => exact absurd rfl he
      | exit id => exact ⟨rfl, ρ1, m.trans m1, r1⟩
      | ret => exact ⟨rfl, ρ1, m.trans m1, r1⟩
    | next hx hr ih =>
      obtain ⟨n, hn⟩ := ih
      refine ⟨n + 1, fun base ds h0 ρ0 w0 ρ a w m r => wp_mono (hx base ds ρ a w r) ?_⟩
      rintro e1 a1 w1 ⟨rfl, ρ1, m1, r1⟩
      exact hn base ds h0 ρ0 w0 ρ1 a1 w1 (m.trans m1) r1
  intro base ds ρ a w r
  obtain ⟨n, hn⟩ := key
  exact wp_loop_rounds n (hn base ds h ρ w ρ a w (fun _ _ _ _ m => m) r)

/-- Rounds of a function. -/
def rounds {σ ω : Type} (K : σ → Option (σ ⊕ ω)) : Nat → σ → Option ω
  | 0, _ => none
  | n + 1, s =>
    match K s with
    | some (.inl s') => rounds K n s'
    | some (.inr o) => some o
    | none => none

theorem rounds_ok {σ ω : Type} {c : Code} (K : σ → Option (σ ⊕ ω)) (tmS : σ → Tm) (hS : σ → Heap) (ex : ω → Ex) (tmO : ω → Tm) (hO : ω → Heap) (hex : ∀ o, ex o ≠ .normal)
    (hn : ∀ s s', K s = some (.inl s') → LCodeP P N n0 c (tmS s) (hS s) .normal (tmS s') (hS s'))
    (ho : ∀ s o, K s = some (.inr o) → LCodeP P N n0 c (tmS s) (hS s) (ex o) (tmO o) (hO o)) :
    ∀ (n : Nat) (s : σ) (o : ω), rounds K n s = some o → LCodeP P N n0 (.loop c) (tmS s) (hS s) (ex o) (tmO o) (hO o) := by
  intro n s o h
  refine LRoundsP.loop ?_
  induction n generalizing s with
  | zero => cases h
  | succ n ih =>
    unfold rounds at h
    cases hk : K s with
    | none => rw [hk] at h; cases h
    | some r =>
      rw [hk] at h
      cases r with
      | inl s' => exact .next (hn s s' hk) (ih s' h)
      | inr o' => cases h; exact .out (ho s o hk) (hex o)

end
end Go.LE
