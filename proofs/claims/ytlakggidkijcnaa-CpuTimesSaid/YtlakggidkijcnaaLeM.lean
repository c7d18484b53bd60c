import Derived.Test.YtlakggidkijcnaaLeN
set_option linter.all false
/- The evaluator. -/
namespace Go.LE
open Go

/-- What is said of an operation ahead: nothing of the next k; a side condition is asked for, the value is told; a call; a loop. -/
inductive Dir where
  | n (k : Nat)
  | d (sd : Bool) (vo : Option Value)
  | call (σ : List (Nat × Bool)) (v : Value) (hs : List (Sl × Bool)) (vo : Option Value)
  | callq (σ : List (Nat × Bool)) (v : Value) (vo : Option Value)
  | loop (keep : List Nat) (e : Ex) (tm : Tm) (h : Heap)

def nextDir : List Dir → Option Dir × List Dir
  | .n (k + 2) :: r => (none, .n (k + 1) :: r)
  | .n 1 :: r => (none, r)
  | .n 0 :: r => nextDir r
  | d :: r => (some d, r)
  | [] => (none, [])

def pv (h : Heap) : Option Value → Option (Value × Heap × List Prop)
  | some v => some (v, h, [])
  | none => none

def pvo (h : Heap) : Option (Value × List Prop) → Option (Value × Heap × List Prop)
  | some (v, obs) => some (v, h, obs)
  | none => none

/-- One operation that is no call of a function: its value, the memory, what is asked. 'at_': where a new block goes. -/
def lop (P : Program) (sd : Bool) (vo : Option Value) (at_ : Nat) (o : Oper) (tm : Tm) (h : Heap) : Option (Value × Heap × List Prop) :=
  match o.op with
  | .move x => pv h (lev tm x)
  | .assign x => pv h (lev tm x)
  | .pick c x y =>
    match lev tm c with
    | some (.bool b) => bif b then pv h (lev tm x) else pv h (lev tm y)
    | _ => none
  | .alloc t =>
    match zeroOf P t with
    | some z =>
      match newAt h at_ ⟨lcells z, true, none⟩ with
      | some h' => some (ptrTo at_, h', [])
      | none => none
    | none => none
  | .box _ x =>
    match lev tm x with
    | some u =>
      bif isWf2 u then
        match newAt h at_ ⟨lcells u, true, none⟩ with
        | some h' => some (ptrTo at_, h', [])
        | none => none
      else none
    | none => none
  | .build t parts =>
    match levParts tm parts.toList with
    | some vs => pv h (lbuild P t vs)
    | none => none
  | .buildSlice t len parts =>
    match levParts tm parts.toList with
    | some vs =>
      match lbuildSlice P t len vs with
      | some (cs, e, s) =>
        match newAt h at_ ⟨cs, true, some (e, s)⟩ with
        | some h' => some (sliceTo at_ len, h', [])
        | none => none
      | none => none
    | none => none
  | .load t x =>
    match lev tm x with
    | some u => pvo h (lload P h vo t u)
    | none => none
  | .store t x y =>
    match lev tm x, lev tm y with
    | some u, some v =>
      match lstore P h sd t u v with
      | some (h', obs) => some (undefV, h', obs)
      | none => none
    | _, _ => none
  | .nilCheck x =>
    match lev tm x with
    | some u => pv h (lnilCheck u)
    | none => none
  | .binOp op t x y _ =>
    match lev tm x, lev tm y with
    | some u, some v => pvo h (lbin P h sd op t u v)
    | _, _ => none
  | .unOp op _ x =>
    match lev tm x with
    | some u => pv h (lun op u)
    | none => none
  | .convert s d x =>
    match lev tm x with
    | some u => pv h (lconv P s d u)
    | none => none
  | .makeFunc fn first captured =>
    match levAll tm first.toList, levAll tm captured.toList with
    | some fs, some cs => pv h (lmakeFunc fn fs cs)
    | _, _ => none
  | .fieldAddr t x f =>
    match lev tm x with
    | some u => pv h (lfieldAddr P t u f)
    | none => none
  | .field t x f =>
    match lev tm x with
    | some u => pv h (lfield P t u f)
    | none => none
  | .indexAddr t x ix =>
    match lev tm x, lev tm ix with
    | some u, some v => pvo h (lindexAddr P h sd t u v)
    | _, _ => none
  | .index t x ix =>
    match lev tm x, lev tm ix with
    | some u, some v => pvo h (lindex P sd vo t u v)
    | _, _ => none
  | .extract x i =>
    match lev tm x with
    | some u => pv h (lextract u i)
    | none => none
  | .call c =>
    match c.callee with
    | .builtin .len =>
      match c.args.toList, c.argTypes.toList with
      | [x], [t] =>
        match lev tm x with
        | some u => pv h (llen P t u)
        | none => none
      | _, _ => none
    | .builtin .max =>
      match c.args.toList with
      | [x, y] =>
        match lev tm x, lev tm y with
        | some (.int k m), some (.int _ n) => some (.int k (if n > m then n else m), h, [])
        | _, _ => none
      | _ => none
    | .builtin .min =>
      match c.args.toList with
      | [x, y] =>
        match lev tm x, lev tm y with
        | some (.int k m), some (.int _ n) => some (.int k (if n < m then n else m), h, [])
        | _, _ => none
      | _ => none
    | .builtin .append =>
      match c.args.toList, c.argTypes.toList with
      | [x, y], [t, t'] =>
        bif Nat.beq t t' then
          match lev tm x, lev tm y with
          | some s, some u =>
            match lappend P h sd t s u with
            | some ((h', k), obs) => some (sliceTo h.length k, h', obs)
            | none => none
          | _, _ => none
        else none
      | _, _ => none
    | _ => none
  | _ => none

section
variable {P : Program} {N : Nat}

theorem pv_spec {h h' : Heap} {x : Option Value} {v : Value} {obs : List Prop} (hp : pv h x = some (v, h', obs)) : x = some v ∧ h' = h := by
  cases x <;> cases hp; exact ⟨rfl, rfl⟩
theorem pvo_spec {h h' : Heap} {x : Option (Value × List Prop)} {v : Value} {obs : List Prop} (hp : pvo h x = some (v, h', obs)) : x = some (v, obs) ∧ h' = h := by
  cases x with
  | none => cases hp
  | some q => obtain ⟨a, b⟩ := q; cases hp; exact ⟨rfl, rfl⟩

theorem arr1 {α : Type} {a : Array α} {x : α} (h : a.toList = [x]) : a = #[x] := Array.ext' h
theorem arr2 {α : Type} {a : Array α} {x y : α} (h : a.toList = [x, y]) : a = #[x, y] := Array.ext' h

set_option maxHeartbeats 1000000 in
theorem lop_ok {sd : Bool} {vo : Option Value} {i : Nat} {o : Oper} {tm : Tm} {h h' : Heap} {v : Value} {obs : List Prop} (hl : lop P sd vo i o tm h = some (v, h', obs)) (hob : All obs) : OpOK P N o tm h v h' := by
  unfold lop at hl
  cases hop : o.op with
  | move x =>
    rw [hop] at hl
    obtain ⟨h1, rfl⟩ := pv_spec hl
    exact op_move (.inl hop) h1
  | assign x =>
    rw [hop] at hl
    obtain ⟨h1, rfl⟩ := pv_spec hl
    exact op_move (.inr hop) h1
  | pick c x y =>
    rw [hop] at hl
    simp only at hl
    cases hc : lev tm c with
    | none => rw [hc] at hl; cases hl
    | some u =>
      rw [hc] at hl
      cases u <;> first | (cases hl; done) | skip
      rename_i b
      cases b
      · simp only [cond_false] at hl
        obtain ⟨h1, rfl⟩ := pv_spec hl
        exact op_pick hop hc (by simpa using h1)
      · simp only [cond_true] at hl
        obtain ⟨h1, rfl⟩ := pv_spec hl
        exact op_pick hop hc (by simpa using h1)
  | alloc t =>
    rw [hop] at hl
    simp only at hl
    cases hz : zeroOf P t with
    | none => rw [hz] at hl; cases hl
    | some z =>
      rw [hz] at hl
      simp only at hl
      cases hn : newAt h i ⟨lcells z, true, none⟩ with
      | none => rw [hn] at hl; cases hl
      | some h2 => rw [hn] at hl; cases hl; exact op_alloc hop hz hn
  | box t x =>
    rw [hop] at hl
    simp only at hl
    cases hx : lev tm x with
    | none => rw [hx] at hl; cases hl
    | some u =>
      rw [hx] at hl
      simp only at hl
      cases hw : isWf2 u with
      | false => rw [hw] at hl; cases hl
      | true =>
        rw [hw] at hl
        simp only [cond_true] at hl
        cases hn : newAt h i ⟨lcells u, true, none⟩ with
        | none => rw [hn] at hl; cases hl
        | some h2 => rw [hn] at hl; cases hl; exact op_box hop hx hw hn
  | build t parts =>
    rw [hop] at hl
    simp only at hl
    cases hx : levParts tm parts.toList with
    | none => rw [hx] at hl; cases hl
    | some vs =>
      rw [hx] at hl
      obtain ⟨h1, rfl⟩ := pv_spec hl
      exact op_build hop hx h1
  | buildSlice t len parts =>
    rw [hop] at hl
    simp only at hl
    cases hx : levParts tm parts.toList with
    | none => rw [hx] at hl; cases hl
    | some vs =>
      rw [hx] at hl
      simp only at hl
      cases hb : lbuildSlice P t len vs with
      | none => rw [hb] at hl; cases hl
      | some q =>
        obtain ⟨cs, e, s⟩ := q
        rw [hb] at hl
        simp only at hl
        cases hn : newAt h i ⟨cs, true, some (e, s)⟩ with
        | none => rw [hn] at hl; cases hl
        | some h2 => rw [hn] at hl; cases hl; exact op_buildSlice hop hx hb hn
  | load t x =>
    rw [hop] at hl
    simp only at hl
    cases hx : lev tm x with
    | none => rw [hx] at hl; cases hl
    | some u =>
      rw [hx] at hl
      obtain ⟨h1, rfl⟩ := pvo_spec hl
      exact op_load hop hx h1 hob
  | store t x y =>
    rw [hop] at hl
    simp only at hl
    cases hx : lev tm x with
    | none => rw [hx] at hl; cases hl
    | some u =>
      cases hy : lev tm y with
      | none => rw [hx, hy] at hl; cases hl
      | some u2 =>
        rw [hx, hy] at hl
        simp only at hl
        cases hs : lstore P h sd t u u2 with
        | none => rw [hs] at hl; cases hl
        | some q => obtain ⟨h2, obs2⟩ := q; rw [hs] at hl; cases hl; exact op_store hop hx hy hs hob
  | nilCheck x =>
    rw [hop] at hl
    simp only at hl
    cases hx : lev tm x with
    | none => rw [hx] at hl; cases hl
    | some u => rw [hx] at hl; obtain ⟨h1, rfl⟩ := pv_spec hl; exact op_nilCheck hop hx h1
  | binOp op t x y t2 =>
    rw [hop] at hl
    simp only at hl
    cases hx : lev tm x with
    | none => rw [hx] at hl; cases hl
    | some u =>
      cases hy : lev tm y with
      | none => rw [hx, hy] at hl; cases hl
      | some u2 => rw [hx, hy] at hl; obtain ⟨h1, rfl⟩ := pvo_spec hl; exact op_binOp hop hx hy h1 hob
  | unOp op t x =>
    rw [hop] at hl
    simp only at hl
    cases hx : lev tm x with
    | none => rw [hx] at hl; cases hl
    | some u => rw [hx] at hl; obtain ⟨h1, rfl⟩ := pv_spec hl; exact op_unOp hop hx h1
  | convert s d x =>
    rw [hop] at hl
    simp only at hl
    cases hx : lev tm x with
    | none => rw [hx] at hl; cases hl
    | some u => rw [hx] at hl; obtain ⟨h1, rfl⟩ := pv_spec hl; exact op_convert hop hx h1
  | makeFunc fn first captured =>
    rw [hop] at hl
    simp only at hl
    cases hf : levAll tm first.toList with
    | none => rw [hf] at hl; cases hl
    | some fs =>
      cases hc : levAll tm captured.toList with
      | none => rw [hf, hc] at hl; cases hl
      | some cs => rw [hf, hc] at hl; obtain ⟨h1, rfl⟩ := pv_spec hl; exact op_makeFunc hop hf hc h1
  | fieldAddr t x f =>
    rw [hop] at hl
    simp only at hl
    cases hx : lev tm x with
    | none => rw [hx] at hl; cases hl
    | some u => rw [hx] at hl; obtain ⟨h1, rfl⟩ := pv_spec hl; exact op_fieldAddr hop hx h1
  | field t x f =>
    rw [hop] at hl
    simp only at hl
    cases hx : lev tm x with
    | none => rw [hx] at hl; cases hl
    | some u => rw [hx] at hl; obtain ⟨h1, rfl⟩ := pv_spec hl; exact op_field hop hx h1
  | indexAddr t x ix =>
    rw [hop] at hl
    simp only at hl
    cases hx : lev tm x with
    | none => rw [hx] at hl; cases hl
    | some u =>
      cases hy : lev tm ix with
      | none => rw [hx, hy] at hl; cases hl
      | some u2 => rw [hx, hy] at hl; obtain ⟨h1, rfl⟩ := pvo_spec hl; exact op_indexAddr hop hx hy h1 hob
  | index t x ix =>
    rw [hop] at hl
    simp only at hl
    cases hx : lev tm x with
    | none => rw [hx] at hl; cases hl
    | some u =>
      cases hy : lev tm ix with
      | none => rw [hx, hy] at hl; cases hl
      | some u2 => rw [hx, hy] at hl; obtain ⟨h1, rfl⟩ := pvo_spec hl; exact op_index hop hx hy h1 hob
  | extract x j =>
    rw [hop] at hl
    simp only at hl
    cases hx : lev tm x with
    | none => rw [hx] at hl; cases hl
    | some u => rw [hx] at hl; obtain ⟨h1, rfl⟩ := pv_spec hl; exact op_extract hop hx h1
  | call c =>
    rw [hop] at hl
    simp only at hl
    cases hc : c.callee with
    | value x => rw [hc] at hl; cases hl
    | invoke x y => rw [hc] at hl; cases hl
    | builtin b =>
      rw [hc] at hl
      cases b <;> first | (cases hl; done) | skip
      case len =>
        simp only at hl
        split at hl
        · rename_i x t ha ht
          cases hx : lev tm x with
          | none => rw [hx] at hl; cases hl
          | some u => rw [hx] at hl; obtain ⟨h1, rfl⟩ := pv_spec hl; exact op_len hop hc (arr1 ha) (arr1 ht) hx h1
        · cases hl
      case max =>
        simp only at hl
        split at hl
        · rename_i x y ha
          split at hl
          · rename_i k m k' n hx hy
            cases hl
            exact op_maxmin (mx := true) hop hc (arr2 ha) hx hy
          · cases hl
        · cases hl
      case min =>
        simp only at hl
        split at hl
        · rename_i x y ha
          split at hl
          · rename_i k m k' n hx hy
            cases hl
            exact op_maxmin (mx := false) hop hc (arr2 ha) hx hy
          · cases hl
        · cases hl
      case append =>
        simp only at hl
        split at hl
        · rename_i x y t t' ha ht
          cases hb : Nat.beq t t' with
          | false => rw [hb] at hl; cases hl
          | true =>
            rw [hb] at hl
            have := Nat.eq_of_beq_eq_true hb
            subst this
            simp only [cond_true] at hl
            cases hx : lev tm x with
            | none => rw [hx] at hl; cases hl
            | some s =>
              cases hy : lev tm y with
              | none => rw [hx, hy] at hl; cases hl
              | some u =>
                rw [hx, hy] at hl
                simp only at hl
                cases hap : lappend P h sd t s u with
                | none => rw [hap] at hl; cases hl
                | some q =>
                  obtain ⟨⟨h2, k⟩, obs2⟩ := q
                  rw [hap] at hl
                  cases hl
                  exact op_append hop hc (arr2 ha) (arr2 ht) hx hy hap hob
        · cases hl
  | _ => rw [hop] at hl; cases hl

/-! ### operations in their order -/
structure S where
  tm : Tm
  h : Heap
  ds : List Dir
  obs : List Prop

/-- The value as it is told, if it is told (reading has done so itself). -/
def told (o : Oper) (vo : Option Value) (v : Value) : Value × List Prop :=
  match vo with
  | none => (v, [])
  | some u =>
    match o.op with
    | .load _ _ => (v, [])
    | .index _ _ _ => (v, [])
    | _ => (u, [v = u])

theorem told_ok {o : Oper} {vo : Option Value} {v : Value} {tm : Tm} {h h' : Heap} (ho : OpOK P N o tm h v h') (hob : All (told o vo v).2) : OpOK P N o tm h (told o vo v).1 h' := by
  unfold told at *
  cases vo with
  | none => exact ho
  | some u =>
    simp only at *
    split at hob <;> first | exact ho | exact ho.as hob.1

/-- Does it leave the memory as it is by its kind? -/
def quietOp : Op → Bool
  | .move _ => true
  | .assign _ => true
  | .pick _ _ _ => true
  | .build _ _ => true
  | .load _ _ => true
  | .nilCheck _ => true
  | .binOp _ _ _ _ _ => true
  | .unOp _ _ _ => true
  | .convert _ _ _ => true
  | .makeFunc _ _ _ => true
  | .fieldAddr _ _ _ => true
  | .field _ _ _ => true
  | .indexAddr _ _ _ => true
  | .index _ _ _ => true
  | .extract _ _ => true
  | .call c =>
    match c.callee with
    | .builtin .len => true
    | .builtin .max => true
    | .builtin .min => true
    | _ => false
  | _ => false

theorem lop_same {sd : Bool} {vo : Option Value} {i : Nat} {o : Oper} {tm : Tm} {h h' : Heap} {v : Value} {obs : List Prop} (hq : quietOp o.op = true) (hl : lop P sd vo i o tm h = some (v, h', obs)) : h' = h := by
  unfold lop at hl
  unfold quietOp at hq
  cases hop : o.op <;> rw [hop] at hl hq <;> simp only at hl hq <;> first | (cases hq; done) | skip
  case call c =>
    cases hc : c.callee with
    | value x => rw [hc] at hq; cases hq
    | invoke x y => rw [hc] at hq; cases hq
    | builtin b =>
      rw [hc] at hl hq
      cases b <;> simp only at hl hq <;> first | (cases hq; done) | skip
      all_goals
        repeat' split at hl
        all_goals first | (cases hl; done) | exact (pv_spec hl).2 | exact (pvo_spec hl).2 | (cases hl; rfl)
  case pick c x y =>
    split at hl
    · rename_i b _
      cases b
      · simp only [cond_false] at hl; exact (pv_spec hl).2
      · simp only [cond_true] at hl; exact (pv_spec hl).2
    · cases hl
  all_goals
    repeat' split at hl
    all_goals first | (cases hl; done) | exact (pv_spec hl).2 | exact (pvo_spec hl).2 | (cases hl; rfl)

def lquiet (P : Program) (o : Oper) (tm : Tm) (h : Heap) (d : Option Dir) : Option (Value × List Prop) :=
  match d with
  | some (.callq σ v vo) =>
    match o.op with
    | .call c =>
      match lcallQ P tm h c σ v with
      | some (u, obs) =>
        match vo with
        | none => some (u, obs)
        | some u' => some (u', (u = u') :: obs)
      | none => none
    | _ => none
  | some (.d sd vo) =>
    bif quietOp o.op then
      match lop P sd vo 0 o tm h with
      | some (v, _, obs) => some ((told o vo v).1, (told o vo v).2 ++ obs)
      | none => none
    else none
  | none =>
    bif quietOp o.op then
      match lop P false none 0 o tm h with
      | some (v, _, obs) => some (v, obs)
      | none => none
    else none
  | _ => none

theorem lquiet_ok {o : Oper} {tm : Tm} {h : Heap} {d : Option Dir} {v : Value} {obs : List Prop} (hl : lquiet P o tm h d = some (v, obs)) (hob : All obs) : OpOK P N o tm h v h := by
  unfold lquiet at hl
  split at hl
  · split at hl
    · rename_i c hop
      split at hl
      · rename_i u obs1 h1
        split at hl
        · cases hl; exact op_callQ hop h1 hob
        · cases hl; exact (op_callQ hop h1 hob.2).as hob.1
      · cases hl
    · cases hl
  · rename_i sd vo
    cases hq : quietOp o.op with
    | false => rw [hq] at hl; cases hl
    | true =>
      rw [hq] at hl
      simp only [cond_true] at hl
      split at hl
      · rename_i u h1 obs1 he
        cases hl
        have := lop_same hq he
        subst this
        obtain ⟨o1, o2⟩ := All.append hob
        exact told_ok (lop_ok he o2) o1
      · cases hl
  · cases hq : quietOp o.op with
    | false => rw [hq] at hl; cases hl
    | true =>
      rw [hq] at hl
      simp only [cond_true] at hl
      split at hl
      · rename_i u h1 obs1 he
        cases hl
        have := lop_same hq he
        subst this
        exact lop_ok he hob
      · cases hl
  · cases hl

def evOp (P : Program) (o : Oper) (tm : Tm) (h : Heap) (at_ : Nat) (d : Option Dir) : Option (Value × Heap × List Prop) :=
  match d with
  | none => lop P false none at_ o tm h
  | some (.d sd vo) =>
    match lop P sd vo at_ o tm h with
    | some (v, h', obs) => some ((told o vo v).1, h', (told o vo v).2 ++ obs)
    | none => none
  | some (.call σ v hs vo) =>
    match o.op with
    | .call c =>
      match lcall P tm h c σ v hs with
      | some (u, h', obs) =>
        match vo with
        | none => some (u, h', obs)
        | some u' => some (u', h', (u = u') :: obs)
      | none => none
    | _ => none
  | some (.callq σ v vo) =>
    match lquiet P o tm h (some (.callq σ v vo)) with
    | some (u, obs) => some (u, h, obs)
    | none => none
  | _ => none

theorem evOp_ok {o : Oper} {tm : Tm} {h h' : Heap} {i : Nat} {d : Option Dir} {v : Value} {obs : List Prop} (hl : evOp P o tm h i d = some (v, h', obs)) (hob : All obs) : OpOK P N o tm h v h' := by
  unfold evOp at hl
  cases d with
  | none => exact lop_ok hl hob
  | some d =>
    cases d with
    | n k => cases hl
    | loop a b c d => cases hl
    | callq σ u vo =>
      simp only at hl
      cases h1 : lquiet P o tm h (some (.callq σ u vo)) with
      | none => rw [h1] at hl; cases hl
      | some q => obtain ⟨u2, obs2⟩ := q; rw [h1] at hl; cases hl; exact lquiet_ok h1 hob
    | d sd vo =>
      simp only at hl
      cases h1 : lop P sd vo i o tm h with
      | none => rw [h1] at hl; cases hl
      | some q =>
        obtain ⟨u, h2, obs2⟩ := q
        rw [h1] at hl
        cases hl
        obtain ⟨o1, o2⟩ := All.append hob
        exact told_ok (lop_ok h1 o2) o1
    | call σ u hs vo =>
      simp only at hl
      cases hop : o.op <;> rw [hop] at hl <;> first | (cases hl; done) | skip
      rename_i c
      simp only at hl
      cases h1 : lcall P tm h c σ u hs with
      | none => rw [h1] at hl; cases hl
      | some q =>
        obtain ⟨u2, h2, obs2⟩ := q
        rw [h1] at hl
        cases vo with
        | none => cases hl; exact op_call hop h1 hob
        | some u' => cases hl; exact (op_call hop h1 hob.2).as hob.1

end
end Go.LE
