import Derived.Test.YtlakggidkijcnaaLeP
set_option linter.all false
/- Regions that draw their order: the evaluator is sound. -/
namespace Go.LE
open Go

section
variable {P : Program} {N : Nat} {all : Array Oper} {tm0 : Tm} {h0 : Heap}

/-- What one step has seen. -/
inductive Saw (P : Program) (N : Nat) (all : Array Oper) (h0 : Heap) (o : Oper) (s : DS) (mask : Nat) (tmi : Tm) : Kind → Option Nat → Bool → Value → Heap → Prop where
  | off : lwanted all tmi o = some false → Saw P N all h0 o s mask tmi .off none s.pinned undefV s.h
  | float (v : Value) : lwanted all tmi o = some true → (∀ H, OpOK P N o tmi H v H) → Saw P N all h0 o s mask tmi .float none s.pinned v s.h
  | calm (b : Nat) (v : Value) : lwanted all tmi o = some true → b < h0.length → calmOk b mask s.done = true → (∀ H : Heap, H[b]? = s.h[b]? → OpOK P N o tmi H v H) → Saw P N all h0 o s mask tmi (.calm b) none s.pinned v s.h
  | alloc (b : Blk) : lwanted all tmi o = some true → s.pinned = false → (∀ H : Heap, H[s.h.length]? = some .unborn → OpOK P N o tmi H (ptrTo s.h.length) (H.set s.h.length (.live b))) → Saw P N all h0 o s mask tmi (.alloc s.h.length b) none false (ptrTo s.h.length) (s.h ++ [.live b])
  | quiet (v : Value) : lwanted all tmi o = some true → s.pinned = false → selWf h0 mask s.done = true → OpOK P N o tmi h0 v h0 → Saw P N all h0 o s mask tmi .quiet none false v s.h
  | pin (v : Value) (hit : Option Nat) (h' : Heap) : lwanted all tmi o = some true → OpOK P N o tmi s.h v h' → Nat.beq (Nat.land s.firm mask) s.firm = true → pinOk hit mask s.done = true → (∀ b, spares hit b = true → h'[b]? = s.h[b]?) → Saw P N all h0 o s mask tmi .pin hit true v h'

theorem dstep_spec {o : Oper} {s s1 : DS} (hd : dstep P N all tm0 h0 o s = some s1) (hob : All s1.obs) :
    dstOk N o.dst = true ∧ freshDst s.done o.dst = true ∧ edgesOk s.n o.after.toList = true ∧ All s.obs ∧
    ∃ r kind hit pinned v h' obs, s1 = dput s o (maskOf s.done o.after.toList) (selTm (maskOf s.done o.after.toList) s.done tm0) r kind hit pinned v h' obs ∧
      Saw P N all h0 o s (maskOf s.done o.after.toList) (selTm (maskOf s.done o.after.toList) s.done tm0) kind hit pinned v h' := by
  unfold dstep at hd
  cases hc : (dstOk N o.dst && freshDst s.done o.dst && edgesOk s.n o.after.toList) with
  | false => rw [hc] at hd; cases hd
  | true =>
    rw [hc] at hd
    simp only [cond_true] at hd
    simp only [Bool.and_eq_true] at hc
    generalize maskOf s.done o.after.toList = mask at *
    generalize htm : selTm mask s.done tm0 = tmi at *
    refine ⟨hc.1.1, hc.1.2, hc.2, ?_⟩
    have pin : ∀ {d : Option Dir} {r : List Dir}, lwanted all tmi o = some true → dpin P o s mask tmi d r = some s1 → All s.obs ∧ ∃ r kind hit pinned v h' obs, s1 = dput s o mask tmi r kind hit pinned v h' obs ∧ Saw P N all h0 o s mask tmi kind hit pinned v h' := fun {d r} hw hp => by
      unfold dpin at hp
      split at hp
      · rename_i v h' obs he
        cases hb : (Nat.beq (Nat.land s.firm mask) s.firm && pinOk (hitOf o tmi) mask s.done) with
        | false => rw [hb] at hp; cases hp
        | true =>
          rw [hb] at hp
          cases hp
          simp only [Bool.and_eq_true] at hb
          obtain ⟨o1, o2⟩ := All.append hob
          exact ⟨o2, _, _, _, _, _, _, _, rfl, .pin v _ h' hw (evOp_ok he o1) hb.1 hb.2 (fun b hs => hitOf_ok he hs)⟩
      · cases hp
    cases hw : lwanted all tmi o with
    | none => rw [hw] at hd; cases hd
    | some b =>
      rw [hw] at hd
      cases b with
      | false =>
        cases hd
        exact ⟨hob, _, _, _, _, _, _, _, rfl, .off hw⟩
      | true =>
        simp only at hd
        cases hn : nextDir s.ds with
        | mk d r =>
          rw [hn] at hd
          simp only at hd
          cases hf : lfree P o tmi d with
          | some q =>
            obtain ⟨v, obs⟩ := q
            rw [hf] at hd
            cases hd
            obtain ⟨o1, o2⟩ := All.append hob
            exact ⟨o2, _, _, _, _, _, _, _, rfl, .float v hw (lfree_ok hf o1)⟩
          | none =>
            rw [hf] at hd
            simp only at hd
            cases hcl : lcalmOk P o mask tmi h0 s d with
            | some q =>
              obtain ⟨b, v, obs⟩ := q
              rw [hcl] at hd
              cases hd
              obtain ⟨o1, o2⟩ := All.append hob
              unfold lcalmOk at hcl
              split at hcl
              · rename_i b' v' obs' he
                cases hb : (Nat.blt b' h0.length && calmOk b' mask s.done) with
                | false => rw [hb] at hcl; cases hcl
                | true =>
                  rw [hb] at hcl
                  cases hcl
                  simp only [Bool.and_eq_true] at hb
                  exact ⟨o2, _, _, _, _, _, _, _, rfl, .calm b v hw (Nat.blt_eq ▸ hb.1) hb.2 (fun H hH => lcalm_ok he o1 H hH)⟩
              · cases hcl
            | none =>
            rw [hcl] at hd
            simp only at hd
            cases hp : s.pinned with
            | true =>
              rw [hp] at hd
              exact pin hw hd
            | false =>
              rw [hp] at hd
              simp only [cond_false] at hd
              have rest : (bif selWf h0 mask s.done then
                  match lquiet P o tmi h0 d with
                  | some (v, obs) => some (dput s o mask tmi r .quiet none false v s.h obs)
                  | none => dpin P o s mask tmi d r
                else dpin P o s mask tmi d r) = some s1 → All s.obs ∧ ∃ r kind hit pinned v h' obs, s1 = dput s o mask tmi r kind hit pinned v h' obs ∧ Saw P N all h0 o s mask tmi kind hit pinned v h' := fun hd => by
                cases hs : selWf h0 mask s.done with
                | false => rw [hs] at hd; exact pin hw hd
                | true =>
                  rw [hs] at hd
                  simp only [cond_true] at hd
                  cases hq : lquiet P o tmi h0 d with
                  | none => rw [hq] at hd; exact pin hw hd
                  | some q =>
                    obtain ⟨v, obs⟩ := q
                    rw [hq] at hd
                    cases hd
                    obtain ⟨o1, o2⟩ := All.append hob
                    exact ⟨o2, _, _, _, _, _, _, _, rfl, .quiet v hw hp hs (lquiet_ok hq o1)⟩
              split at hd
              · rename_i b hb
                cases hd
                exact ⟨hob, _, _, _, _, _, _, _, rfl, .alloc b hw hp (lmake_ok hb _)⟩
              · exact rest hd

theorem pinOk_ok {hit : Option Nat} {mask : Nat} : ∀ {done : List (Nat × Ent)}, pinOk hit mask done = true → ∀ {j : Nat} {e : Ent} {b : Nat}, (j, e) ∈ done → e.kind = .calm b → spares hit b = true ∨ has mask j = true
  | (j', e') :: l, hp, j, e, b, hm, hk => by
    simp only [pinOk, Bool.and_eq_true] at hp
    rcases List.mem_cons.1 hm with h | h
    · cases h
      rw [hk] at hp
      simp only [calmAt, Bool.or_eq_true] at hp
      exact hp.1
    · exact pinOk_ok hp.2 h hk

theorem calmOk_ok {b mask : Nat} : ∀ {done : List (Nat × Ent)}, calmOk b mask done = true → ∀ {j : Nat} {e : Ent}, (j, e) ∈ done → e.kind = .pin → spares e.hit b = true ∨ has mask j = true
  | (j', e') :: l, hp, j, e, hm, hk => by
    simp only [calmOk, Bool.and_eq_true] at hp
    rcases List.mem_cons.1 hm with h | h
    · cases h
      rw [hk] at hp
      simp only [isPin, Bool.not_true, Bool.false_or, Bool.or_eq_true] at hp
      exact hp.1
    · exact calmOk_ok hp.2 h hk

/-- What holds of a state. -/
structure Fwd (h0 : Heap) (s : DS) : Prop where
  mem : ∀ j, j < s.n → (j, entAt s.done j) ∈ s.done
  keys : ∀ j e, (j, e) ∈ s.done → j < s.n ∧ entAt s.done j = e
  loose : ∀ j, j < s.n → (entAt s.done j).kind.loose = false → s.firm.testBit j = true
  free : s.pinned = false → s.k = s.n ∧ s.hK = s.h
  k_le : s.k ≤ s.n
  pin_ge : ∀ j, j < s.n → (entAt s.done j).kind = .pin → s.k ≤ j
  late : ∀ j, j < s.n → s.k ≤ j → (entAt s.done j).kind ≠ .pin → (entAt s.done j).kind.loose = true
  len : h0.length ≤ s.hK.length
  old : ∀ i, i < h0.length → s.hK[i]? = h0[i]?
  al : ∀ j a b, j < s.n → (entAt s.done j).kind = .alloc a b → h0.length ≤ a ∧ a < s.hK.length ∧ s.hK[a]? = some (.live b)
  al_ne : ∀ i j a b b', i < s.n → j < s.n → (entAt s.done i).kind = .alloc a b → (entAt s.done j).kind = .alloc a b' → i = j
  al_all : ∀ a, h0.length ≤ a → a < s.hK.length → ∃ j b, j < s.n ∧ (entAt s.done j).kind = .alloc a b

theorem dput_at {s : DS} {o : Oper} {mask : Nat} {tmi : Tm} {r : List Dir} {kind : Kind} {hit : Option Nat} {pinned : Bool} {v : Value} {h : Heap} {obs : List Prop} :
    entAt (dput s o mask tmi r kind hit pinned v h obs).done s.n = ⟨o.dst, v, kind, mask, tmi, s.h, hit⟩ ∧ ∀ j, j < s.n → entAt (dput s o mask tmi r kind hit pinned v h obs).done j = entAt s.done j :=
  ⟨entAt_cons, fun j hj => entAt_ne (by omega)⟩

set_option maxHeartbeats 1000000 in
theorem Fwd.step {s : DS} (f : Fwd h0 s) {o : Oper} {mask : Nat} {tmi : Tm} {r : List Dir} {kind : Kind} {hit : Option Nat} {pinned : Bool} {v : Value} {h : Heap} {obs : List Prop} (sw : Saw P N all h0 o s mask tmi kind hit pinned v h) : Fwd h0 (dput s o mask tmi r kind hit pinned v h obs) := by
  obtain ⟨a1, a2⟩ := dput_at (s := s) (o := o) (mask := mask) (tmi := tmi) (r := r) (kind := kind) (hit := hit) (pinned := pinned) (v := v) (h := h) (obs := obs)
  have kd : (entAt (dput s o mask tmi r kind hit pinned v h obs).done s.n).kind = kind := by rw [a1]
  have split : ∀ j, j < s.n + 1 → j = s.n ∨ j < s.n := fun j hj => by omega
  -- the two ends of the memory
  have hk : (dput s o mask tmi r kind hit pinned v h obs).hK = bif pinned then s.hK else h := rfl
  have kk : (dput s o mask tmi r kind hit pinned v h obs).k = bif pinned then s.k else s.n + 1 := rfl
  have nn : (dput s o mask tmi r kind hit pinned v h obs).n = s.n + 1 := rfl
  have hh : (dput s o mask tmi r kind hit pinned v h obs).h = h := rfl
  have pp : (dput s o mask tmi r kind hit pinned v h obs).pinned = pinned := rfl
  have ff : (dput s o mask tmi r kind hit pinned v h obs).firm = bif kind.loose then s.firm else Nat.lor s.firm (Nat.shiftLeft 1 s.n) := rfl
  have dd : (dput s o mask tmi r kind hit pinned v h obs).done = (s.n, ⟨o.dst, v, kind, mask, tmi, s.h, hit⟩) :: s.done := rfl
  -- how the memory of the pins' beginning goes on
  have mem : (∀ a b, kind ≠ .alloc a b) → (bif pinned then s.hK else h) = s.hK := fun hna => by
    cases sw with
    | off hw => cases hp : s.pinned with
      | true => rfl
      | false => exact (f.free hp).2.symm
    | float v hw ho => cases hp : s.pinned with
      | true => rfl
      | false => exact (f.free hp).2.symm
    | calm b v hw => cases hp : s.pinned with
      | true => rfl
      | false => exact (f.free hp).2.symm
    | alloc b => exact absurd rfl (hna _ _)
    | quiet v hw hp => exact (f.free hp).2.symm
    | pin => rfl
  have kle : s.k ≤ (bif pinned then s.k else s.n + 1) := by
    cases pinned
    · simp only [cond_false]; have := f.k_le; omega
    · exact Nat.le_refl _
  -- a pin may stand here
  have pinned_or : pinned = false → s.pinned = false := fun hp => by
    cases sw with
    | off => exact hp
    | float => exact hp
    | calm => exact hp
    | alloc b hw h => exact h
    | quiet v hw h => exact h
    | pin => cases hp
  generalize hD : (dput s o mask tmi r kind hit pinned v h obs) = s1 at *
  refine
    { mem := fun j hj => ?_
      keys := fun j e hm => ?_
      loose := fun j hj hl => ?_
      free := fun hp => ?_
      k_le := ?_
      pin_ge := fun j hj hkd => ?_
      late := fun j hj hkj hkd => ?_
      len := ?_
      old := fun i hi => ?_
      al := fun j a b hj hkd => ?_
      al_ne := fun i j a b b' hi hj h1 h2 => ?_
      al_all := fun a h1 h2 => ?_ }
  · rw [nn] at hj
    rcases split j hj with e | e
    · subst e
      rw [a1, dd]
      exact .head _
    · rw [a2 j e, dd]
      exact .tail _ (f.mem j e)
  · rw [dd] at hm
    rcases List.mem_cons.1 hm with h | h
    · cases h
      exact ⟨by rw [nn]; omega, a1⟩
    · obtain ⟨h1, h2⟩ := f.keys j e h
      exact ⟨by rw [nn]; omega, by rw [a2 j h1]; exact h2⟩
  · rw [nn] at hj
    rw [ff]
    rcases split j hj with e | e
    · subst e
      rw [kd] at hl
      rw [hl]
      show (s.firm ||| (1 <<< s.n)).testBit s.n = true
      rw [Nat.testBit_or, Nat.one_shiftLeft, Nat.testBit_two_pow]
      simp
    · rw [a2 j e] at hl
      have := f.loose j e hl
      cases kind.loose with
      | true => exact this
      | false =>
        show (s.firm ||| (1 <<< s.n)).testBit j = true
        rw [Nat.testBit_or, this, Bool.true_or]
  · rw [pp] at hp
    subst hp
    rw [kk, nn, hk, hh]
    exact ⟨rfl, rfl⟩
  · rw [kk, nn]
    have := f.k_le
    cases pinned
    · exact Nat.le_refl _
    · simp only [cond_true]; omega
  · rw [nn] at hj
    rw [kk]
    rcases split j hj with e | e
    · subst e
      rw [kd] at hkd
      subst hkd
      cases sw
      exact f.k_le
    · rw [a2 j e] at hkd
      have := f.pin_ge j e hkd
      cases hp : pinned with
      | true => exact this
      | false =>
        have := (f.free (pinned_or hp)).1
        omega
  · rw [nn] at hj
    rw [kk] at hkj
    rcases split j hj with e | e
    · subst e
      rw [kd] at hkd ⊢
      cases sw with
      | off => rfl
      | float => rfl
      | calm => rfl
      | alloc => simp only [cond_false] at hkj; omega
      | quiet => simp only [cond_false] at hkj; omega
      | pin => exact absurd rfl hkd
    · rw [a2 j e] at hkd ⊢
      exact f.late j e (by omega) hkd
  · rw [hk]
    by_cases hna : ∀ a b, kind ≠ .alloc a b
    · rw [mem hna]; exact f.len
    · have hp : pinned = false := by
        cases sw with
        | alloc => rfl
        | _ => exact absurd (by simp) hna
      rw [hp]
      cases sw with
      | alloc b hw hp' =>
        have := (f.free hp').2
        have := f.len
        simp only [cond_false, List.length_append]
        rw [(f.free hp').2] at this
        omega
      | _ => exact absurd (by simp) hna
  · rw [hk]
    by_cases hna : ∀ a b, kind ≠ .alloc a b
    · rw [mem hna]; exact f.old i hi
    · cases sw with
      | alloc b hw hp' =>
        simp only [cond_false]
        have h1 := (f.free hp').2
        have h2 := f.len
        rw [h1] at h2
        rw [List.getElem?_append_left (by omega), ← h1]
        exact f.old i hi
      | _ => exact absurd (by simp) hna
  · rw [nn] at hj
    rw [hk]
    rcases split j hj with e | e
    · subst e
      rw [kd] at hkd
      subst hkd
      cases sw with
      | alloc b hw hp' =>
        have h1 := (f.free hp').2
        have h2 := f.len
        rw [h1] at h2
        simp only [cond_false, List.length_append, List.length_singleton]
        exact ⟨h2, by omega, by simp⟩
    · rw [a2 j e] at hkd
      obtain ⟨q1, q2, q3⟩ := f.al j a b e hkd
      by_cases hna : ∀ a b, kind ≠ .alloc a b
      · rw [mem hna]; exact ⟨q1, q2, q3⟩
      · cases sw with
        | alloc b hw hp' =>
          have h1 := (f.free hp').2
          rw [h1] at q2 q3
          simp only [cond_false, List.length_append, List.length_singleton]
          exact ⟨q1, by omega, by rw [List.getElem?_append_left q2]; exact q3⟩
        | _ => exact absurd (by simp) hna
  · rw [nn] at hi hj
    have new : ∀ j, j < s.n → ∀ a b b', kind = .alloc a b → (entAt s.done j).kind = .alloc a b' → False := fun j hj a b b' h1 h2 => by
      subst h1
      cases sw with
      | alloc b hw hp' =>
        have h1 := (f.free hp').2
        have := (f.al j _ _ hj h2).2.1
        rw [h1] at this
        omega
    rcases split i hi with e1 | e1 <;> rcases split j hj with e2 | e2
    · rw [e1, e2]
    · subst e1
      rw [kd] at h1
      rw [a2 j e2] at h2
      exact (new j e2 _ _ _ h1 h2).elim
    · subst e2
      rw [kd] at h2
      rw [a2 i e1] at h1
      exact (new i e1 _ _ _ h2 h1).elim
    · rw [a2 i e1] at h1
      rw [a2 j e2] at h2
      exact f.al_ne i j a b b' e1 e2 h1 h2
  · rw [hk] at h2
    by_cases hna : ∀ a b, kind ≠ .alloc a b
    · rw [mem hna] at h2
      obtain ⟨j, b, q1, q2⟩ := f.al_all a h1 h2
      exact ⟨j, b, by rw [nn]; omega, by rw [a2 j q1]; exact q2⟩
    · cases sw with
      | alloc b hw hp' =>
        have h3 := (f.free hp').2
        simp only [cond_false, List.length_append, List.length_singleton] at h2
        rcases Nat.lt_or_ge a s.h.length with h4 | h4
        · obtain ⟨j, b', q1, q2⟩ := f.al_all a h1 (by rw [h3]; exact h4)
          exact ⟨j, b', by rw [nn]; omega, by rw [a2 j q1]; exact q2⟩
        · have : a = s.h.length := by omega
          subst this
          exact ⟨s.n, b, by rw [nn]; omega, kd⟩
      | _ => exact absurd (by simp) hna

/-- The memory ahead of the operation i. -/
def hpOf (fin : DS) (i : Nat) : Heap := if i < fin.n then (entAt fin.done i).hb else fin.h

/-- What is known of an operation in the end. -/
structure Good (P : Program) (N : Nat) (all : Array Oper) (tm0 : Tm) (h0 : Heap) (fin : DS) (i : Nat) (o : Oper) : Prop where
  edges : edgesOk i o.after.toList = true
  mask : (entAt fin.done i).mask = maskOf fin.done o.after.toList
  dok : dstOk N o.dst = true
  dst : (entAt fin.done i).dst = o.dst
  fresh : ∀ j, j < i → ∀ d, o.dst = some d → (entAt fin.done j).dst ≠ some d
  tmi : ∀ t v, look (entAt fin.done i).tmi t = some v → (∃ j, j < i ∧ has (entAt fin.done i).mask j = true ∧ (entAt fin.done j).dst = some t ∧ v = (entAt fin.done j).v) ∨ look tm0 t = some v
  off : (entAt fin.done i).kind = .off → lwanted all (entAt fin.done i).tmi o = some false ∧ (entAt fin.done i).v = undefV
  on : (entAt fin.done i).kind ≠ .off → lwanted all (entAt fin.done i).tmi o = some true
  float : (entAt fin.done i).kind = .float → ∀ h, OpOK P N o (entAt fin.done i).tmi h (entAt fin.done i).v h
  quiet : (entAt fin.done i).kind = .quiet → OpOK P N o (entAt fin.done i).tmi h0 (entAt fin.done i).v h0 ∧ ∀ t v, look (entAt fin.done i).tmi t = some v → wf h0 v = true ∨ look tm0 t = some v
  alloc : ∀ a b, (entAt fin.done i).kind = .alloc a b → ∀ H : Heap, H[a]? = some .unborn → OpOK P N o (entAt fin.done i).tmi H (entAt fin.done i).v (H.set a (.live b))
  pin : (entAt fin.done i).kind = .pin → OpOK P N o (entAt fin.done i).tmi (hpOf fin i) (entAt fin.done i).v (hpOf fin (i + 1)) ∧ (∀ j, j < i → (entAt fin.done j).kind.loose = false → has (entAt fin.done i).mask j = true) ∧
    (∀ b, spares (entAt fin.done i).hit b = true → (hpOf fin (i + 1))[b]? = (hpOf fin i)[b]?) ∧ ∀ j b, j < i → (entAt fin.done j).kind = .calm b → (hpOf fin (i + 1))[b]? = (hpOf fin i)[b]? ∨ has (entAt fin.done i).mask j = true
  calm : ∀ b, (entAt fin.done i).kind = .calm b → b < h0.length ∧ (∃ c, (∀ H : Heap, H[b]? = c → OpOK P N o (entAt fin.done i).tmi H (entAt fin.done i).v H) ∧ ((fin.k ≤ i ∧ c = (hpOf fin i)[b]?) ∨ (i ≤ fin.k ∧ c = h0[b]?))) ∧
    ∀ j, j < i → (entAt fin.done j).kind = .pin → spares (entAt fin.done j).hit b = true ∨ has (entAt fin.done i).mask j = true
  same : (entAt fin.done i).kind.loose = true → hpOf fin (i + 1) = hpOf fin i

/-- Steps, one behind the other. -/
inductive DRuns (P : Program) (N : Nat) (all : Array Oper) (tm0 : Tm) (h0 : Heap) : List Oper → DS → DS → Prop where
  | nil (s : DS) : DRuns P N all tm0 h0 [] s s
  | cons {o : Oper} {l : List Oper} {s s1 fin : DS} (r : List Dir) (kind : Kind) (hit : Option Nat) (pinned : Bool) (v : Value) (h' : Heap) (obs : List Prop) (d1 : dstOk N o.dst = true) (d2 : freshDst s.done o.dst = true) (d3 : edgesOk s.n o.after.toList = true)
      (e1 : s1 = dput s o (maskOf s.done o.after.toList) (selTm (maskOf s.done o.after.toList) s.done tm0) r kind hit pinned v h' obs)
      (sw : Saw P N all h0 o s (maskOf s.done o.after.toList) (selTm (maskOf s.done o.after.toList) s.done tm0) kind hit pinned v h') (k : DRuns P N all tm0 h0 l s1 fin) : DRuns P N all tm0 h0 (o :: l) s fin

set_option maxHeartbeats 1000000 in
theorem druns_ok {l : List Oper} {s fin : DS} (hd : DRuns P N all tm0 h0 l s fin) : Fwd h0 s →
    (∀ j, j < s.n → entAt fin.done j = entAt s.done j) ∧ fin.n = s.n + l.length ∧ Fwd h0 fin ∧ hpOf fin s.n = s.h ∧ (s.pinned = true → fin.k = s.k ∧ fin.hK = s.hK) ∧
    (s.pinned = false → hpOf fin fin.k = fin.hK ∧ s.n ≤ fin.k) ∧ ∀ i o, l[i]? = some o → Good P N all tm0 h0 fin (s.n + i) o := by
  induction hd with
  | nil s =>
    intro f
    have e : hpOf s s.n = s.h := by unfold hpOf; rw [if_neg (by omega)]
    exact ⟨fun _ _ => rfl, rfl, f, e, fun _ => ⟨rfl, rfl⟩, fun hp => by rw [(f.free hp).1, (f.free hp).2]; exact ⟨e, Nat.le_refl _⟩, fun i o h => by simp at h⟩
  | cons r kind hit pinned v h' obs d1 d2 d3 e1 sw k ih =>
      rename_i o l s s1 fin
      intro f
      have f1 : Fwd h0 s1 := by rw [e1]; exact f.step sw
      obtain ⟨i2, i3, i4, i5, i6, i7, i8⟩ := ih f1
      obtain ⟨a1, a2⟩ := dput_at (s := s) (o := o) (mask := maskOf s.done o.after.toList) (tmi := selTm (maskOf s.done o.after.toList) s.done tm0) (r := r) (kind := kind) (hit := hit) (pinned := pinned) (v := v) (h := h') (obs := obs)
      rw [← e1] at a1 a2
      have nn : s1.n = s.n + 1 := by rw [e1]; rfl
      have hh : s1.h = h' := by rw [e1]; rfl
      have low : ∀ j, j < s.n → entAt fin.done j = entAt s.done j := fun j hj => by rw [i2 j (by omega), a2 j hj]
      have me : entAt fin.done s.n = ⟨o.dst, v, kind, maskOf s.done o.after.toList, selTm (maskOf s.done o.after.toList) s.done tm0, s.h, hit⟩ := by rw [i2 s.n (by omega), a1]
      have hpn : hpOf fin s.n = s.h := by
        unfold hpOf
        rw [if_pos (by omega), me]
      have hpn1 : hpOf fin (s.n + 1) = h' := by rw [← nn, i5, hh]
      have pp : s1.pinned = pinned := by rw [e1]; rfl
      have kk : s1.k = bif pinned then s.k else s.n + 1 := by rw [e1]; rfl
      have hk : s1.hK = bif pinned then s.hK else h' := by rw [e1]; rfl
      refine ⟨low, by rw [i3, nn, List.length_cons]; omega, i4, hpn, fun hp => ?_, fun hp => ?_, fun i o' hi => ?_⟩
      · have : pinned = true := by
          cases sw with
          | off => exact hp
          | float => exact hp
          | calm => exact hp
          | alloc b hw hp' => rw [hp] at hp'; cases hp'
          | quiet v hw hp' => rw [hp] at hp'; cases hp'
          | pin => rfl
        obtain ⟨q1, q2⟩ := i6 (by rw [pp]; exact this)
        rw [q1, q2, kk, hk, this]
        exact ⟨rfl, rfl⟩
      · cases hpp : pinned with
        | false =>
          obtain ⟨q1, q2⟩ := i7 (by rw [pp]; exact hpp)
          exact ⟨q1, by omega⟩
        | true =>
          obtain ⟨q1, q2⟩ := i6 (by rw [pp]; exact hpp)
          rw [q1, q2, kk, hk, hpp]
          simp only [cond_true]
          rw [(f.free hp).1, (f.free hp).2]
          exact ⟨hpn, Nat.le_refl _⟩
      · cases i with
        | succ i =>
          have := i8 i o' (by simpa using hi)
          rw [nn] at this
          rw [show s.n + (i + 1) = s.n + 1 + i by omega]
          exact this
        | zero =>
          have : o = o' := by simpa using hi
          subst this
          show Good P N all tm0 h0 fin s.n o
          exact
            { edges := d3
              mask := by rw [me]; exact (maskOf_congr low _ d3).symm
              dok := d1
              dst := by rw [me]
              fresh := fun j hj d hd' => by
                rw [low j hj]
                rw [hd'] at d2
                intro he
                -- the entry j is in the list, or it has no slot
                have : ∀ (l : List (Nat × Ent)), (entAt l j).dst = some d → ∃ j' e, (j', e) ∈ l ∧ e.dst = some d := by
                  intro l
                  induction l with
                  | nil => intro h; cases h
                  | cons x l ih =>
                    obtain ⟨j', e⟩ := x
                    intro h
                    by_cases hj : j' = j
                    · subst hj; rw [entAt_cons] at h; exact ⟨j', e, .head _, h⟩
                    · rw [entAt_ne hj] at h
                      obtain ⟨a, b, c1, c2⟩ := ih h
                      exact ⟨a, b, .tail _ c1, c2⟩
                obtain ⟨j', e, c1, c2⟩ := this _ he
                exact freshDst_ok d2 j' e c1 c2
              tmi := fun t u hu => by
                rw [me] at hu ⊢
                rcases selTm_look hu with ⟨j, e, h1, h2, h3, h4⟩ | h
                · obtain ⟨k1, k2⟩ := f.keys j e h1
                  exact .inl ⟨j, k1, h2, by rw [low j k1, k2]; exact h3, by rw [low j k1, k2]; exact h4⟩
                · exact .inr h
              off := fun hkk => by
                rw [me] at hkk ⊢
                simp only at hkk ⊢
                subst hkk
                cases sw with
                | off hw => exact ⟨hw, rfl⟩
              on := fun hkk => by
                rw [me] at hkk ⊢
                simp only at hkk ⊢
                cases sw with
                | off hw => exact absurd rfl hkk
                | float v hw => exact hw
                | calm b v hw => exact hw
                | alloc b hw => exact hw
                | quiet v hw => exact hw
                | pin v h2 h hw => exact hw
              float := fun hkk => by
                rw [me] at hkk ⊢
                simp only at hkk ⊢
                subst hkk
                cases sw with
                | float v hw h => exact h
              quiet := fun hkk => by
                rw [me] at hkk ⊢
                simp only at hkk ⊢
                subst hkk
                cases sw with
                | quiet v hw hp hs h =>
                  refine ⟨h, fun t u hu => ?_⟩
                  rcases selTm_look hu with ⟨j, e, h1, h2, h3, h4⟩ | h
                  · exact .inl (by rw [h4]; exact selWf_ok hs j e h1 h2 t h3)
                  · exact .inr h
              alloc := fun a b hkk => by
                rw [me] at hkk ⊢
                simp only at hkk ⊢
                subst hkk
                cases sw with
                | alloc b hw hp h => exact h
              pin := fun hkk => by
                rw [me] at hkk ⊢
                simp only at hkk ⊢
                subst hkk
                cases sw with
                | pin v h2 h hw hop hb =>
                  rename_i hpk hsp
                  refine ⟨by rw [hpn, hpn1]; exact hop, fun j hj hl => ?_, fun b hs => by rw [hpn, hpn1]; exact hsp b hs, fun j b hj hkj => ?_⟩
                  · rw [low j hj] at hl
                    exact has_iff.2 (land_sub hb (f.loose j hj hl))
                  · rw [low j hj] at hkj
                    rcases pinOk_ok hpk (f.mem j hj) hkj with c | c
                    · exact .inl (by rw [hpn, hpn1]; exact hsp b c)
                    · exact .inr c
              calm := fun b hkk => by
                rw [me] at hkk ⊢
                simp only at hkk ⊢
                subst hkk
                cases sw with
                | calm b v hw hb hc hop =>
                  refine ⟨hb, ⟨s.h[b]?, hop, ?_⟩, fun j hj hkj => ?_⟩
                  · cases hp : s.pinned with
                    | true =>
                      have h1 : fin.k = s.k := by
                        have := (i6 (by rw [pp]; exact hp)).1
                        rw [kk, hp] at this
                        exact this
                      exact .inl ⟨by rw [h1]; exact f.k_le, by rw [hpn]⟩
                    | false =>
                      have h1 := (i7 (by rw [pp]; exact hp)).2
                      refine .inr ⟨by omega, ?_⟩
                      rw [← (f.free hp).2]
                      exact f.old b hb
                  · rw [low j hj] at hkj ⊢
                    exact calmOk_ok hc (f.mem j hj) hkj
              same := fun hkk => by
                rw [me] at hkk
                simp only at hkk
                rw [hpn, hpn1]
                cases sw with
                | off => rfl
                | float => rfl
                | calm => rfl
                | alloc => cases hkk
                | quiet => rfl
                | pin => cases hkk }

end
end Go.LE
