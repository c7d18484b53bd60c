import Derived.Test.YtlakggidkijcnaaLeW
set_option linter.all false
/- Guides: a function's ways, told as a tree that the evaluator follows. -/
namespace Go.LE
open Go

/-- What is asked of blocks that are handed back raw. -/
def nad : List (Sl × Bool) → List Prop
  | [] => []
  | (.live b, true) :: l => NoAddr b.vals :: nad l
  | _ :: l => nad l

/-- What is known of a function. -/
structure Con (P : Program) : Type 1 where
  X : Type
  Y : Type
  fn : Nat
  q : Bool
  A : X → List Value
  J : X → List (Sl × Bool)
  V : Y → Value
  H : X → Y → List (Sl × Bool)
  F : X → Option Y
  ok : ∀ x y, F x = some y → LCalls P fn (A x) ((J x).map (·.1)) (V y) ((H x y).map (·.1))
  nj : ∀ x, All (nad (J x))
  na : ∀ x y, All (nad (H x y))
def Con.I {P : Program} (C : Con P) (x : C.X) : Heap := (C.J x).map (·.1)
/-- What is asked beside. -/
def Con.N {P : Program} (C : Con P) (x : C.X) (y : C.Y) : List Prop := nad (C.J x) ++ (bif C.q then [] else nad (C.H x y))

theorem All.app : ∀ {l m : List Prop}, All l → All m → All (l ++ m)
  | [], _, _, h => h
  | _ :: _, _, h, h' => ⟨h.1, All.app h.2 h'⟩

theorem Con.N_ok {P : Program} (C : Con P) (x : C.X) (y : C.Y) : All (C.N x y) := (C.nj x).app (by cases C.q; exact C.na x y; exact trivial)
/-- .. which always answers. -/
structure ConT (P : Program) : Type 1 extends Con P where
  f : X → Y
  hf : ∀ x, F x = some (f x)

/-- What is known of a loop. -/
structure LCon (P : Program) : Type 1 where
  X : Type
  Y : Type
  N : Nat
  n0 : Nat
  c : Code
  tmI : X → Tm
  hI : X → Heap
  ex : Y → Ex
  tmO : Y → Tm
  hO : Y → Heap
  F : X → Option Y
  ok : ∀ x y, F x = some y → LCodeP P N n0 (.loop c) (tmI x) (hI x) (ex y) (tmO y) (hO y)

/-- A guide: n: the next k operations; s: a bool is split; i: a number is compared; d: an operation with a directive; c, t, v: a call; l: a loop; r: a block is told anew; e: the end; f: this way is not gone. -/
inductive Gd (P : Program) (α : Type) : Type 1 where
  | n (k : Nat) (g : Gd P α)
  | s (c : Bool) (a b : Gd P α)
  | i (c : Bool) (m : Int) (a e : Gd P α)
  | d (d : Dir) (l : List Prop) (b : Bool) (h : b = true → All l) (g : Gd P α)
  | c (σ : List (Nat × Bool)) (C : Con P) (x : C.X) (l : C.Y → List Prop) (b : C.Y → Bool) (h : ∀ y, b y = true → All (l y)) (k : C.Y → Gd P α)
  | t (σ : List (Nat × Bool)) (C : ConT P) (x : C.X) (k : C.Y → Gd P α)
  | o (σ : List (Nat × Bool)) (C : Con P) (x : C.X) (B : Type) (inj : Option B → C.Y) (sel : C.Y → Option B) (h : ∀ y, inj (sel y) = y) (k : B → Gd P α) (e : Gd P α)
  | m (σ : List (Nat × Bool)) (C : ConT P) (x : C.X) (B : Type) (inj : Option B → C.Y) (sel : C.Y → Option B) (h : ∀ y, inj (sel y) = y) (k : B → Gd P α) (e : Gd P α)
  | l (keep : List Nat) (out : List (Nat × Bool)) (nils : List (Nat × Nat × Nat)) (L : LCon P) (x : L.X) (l : List Prop) (b : Bool) (h : b = true → All l) (k : L.Y → Gd P α)
  | ll (keep : List Nat) (out : List (Nat × Bool)) (nils : List (Nat × Nat × Nat)) (L : LCon P) (x : L.X) (l : List Prop) (b : Bool) (h : b = true → All l) (A B : Type) (inj : A ⊕ B → L.Y) (sel : L.Y → A ⊕ B) (hs : ∀ y, inj (sel y) = y) (ka : A → Gd P α) (kb : B → Gd P α)
  | r (i : Nat) (old vs : List Value) (b : Bool) (h : b = true → old = vs) (g : Gd P α)
  | e (out : List (Nat × Bool)) (l : List Prop) (b : Bool) (h : b = true → All l) (y : α)
  | f

inductive Out (β : Type) : Type 1 where
  | s (c : Bool) (a b : Out β)
  | ob (l : List Prop) (a : Out β)
  | all (Y : Type) (k : Y → Out β)
  | v (Y : Type) (k : Y → Out β) (e : Out β)
  | lf (b : β)
  | f

variable {P : Program} {α β : Type}

def Gd.exp (φ : α → β) : Gd P α → Out β
  | .n _ g => g.exp φ
  | .s p a b => .s p (a.exp φ) (b.exp φ)
  | .i p _ a b => .s p (a.exp φ) (b.exp φ)
  | .d _ ps _ _ g => .ob ps (g.exp φ)
  | .c _ C x ps _ _ k => .all C.Y fun y => .ob (LCalls P C.fn (C.A x) (C.I x) (C.V y) ((C.H x y).map (·.1)) :: (C.N x y ++ ps y)) ((k y).exp φ)
  | .t _ C x k => .all C.Y fun y => .ob (LCalls P C.fn (C.A x) (C.I x) (C.V y) ((C.H x y).map (·.1)) :: C.N x y) ((k y).exp φ)
  | .o _ C x B inj _ _ k w => .v B (fun b => .ob (LCalls P C.fn (C.A x) (C.I x) (C.V (inj (some b))) ((C.H x (inj (some b))).map (·.1)) :: C.N x (inj (some b))) ((k b).exp φ)) (.ob (LCalls P C.fn (C.A x) (C.I x) (C.V (inj none)) ((C.H x (inj none)).map (·.1)) :: C.N x (inj none)) (w.exp φ))
  | .m _ C x B inj _ _ k w => .v B (fun b => .ob (LCalls P C.fn (C.A x) (C.I x) (C.V (inj (some b))) ((C.H x (inj (some b))).map (·.1)) :: C.N x (inj (some b))) ((k b).exp φ)) (.ob (LCalls P C.fn (C.A x) (C.I x) (C.V (inj none)) ((C.H x (inj none)).map (·.1)) :: C.N x (inj none)) (w.exp φ))
  | .l _ _ _ L x ps _ _ k => .ob ps (.all L.Y fun y => .ob [LCodeP P L.N L.n0 (.loop L.c) (L.tmI x) (L.hI x) (L.ex y) (L.tmO y) (L.hO y)] ((k y).exp φ))
  | .ll _ _ _ L x ps _ _ A B inj _ _ ka kb => .ob ps (.v A (fun a => .ob [LCodeP P L.N L.n0 (.loop L.c) (L.tmI x) (L.hI x) (L.ex (inj (.inl a))) (L.tmO (inj (.inl a))) (L.hO (inj (.inl a)))] ((ka a).exp φ))
      (.all B fun a => .ob [LCodeP P L.N L.n0 (.loop L.c) (L.tmI x) (L.hI x) (L.ex (inj (.inr a))) (L.tmO (inj (.inr a))) (L.hO (inj (.inr a)))] ((kb a).exp φ)))
  | .r _ old vs _ _ g => .ob [old = vs] (g.exp φ)
  | .e _ ps _ _ y => .ob ps (.lf (φ y))
  | .f => .f

def Gd.run : Gd P α → Option α
  | .n _ g => g.run
  | .s p a b => bif p then a.run else b.run
  | .i p _ a b => bif p then a.run else b.run
  | .d _ _ p _ g => bif p then g.run else none
  | .c _ C x _ p _ k => (C.F x).bind fun y => bif p y then (k y).run else none
  | .t _ C x k => (k (C.f x)).run
  | .o _ C x _ _ sel _ k w => (C.F x).bind fun y => match sel y with | some b => (k b).run | none => w.run
  | .m _ C x _ _ sel _ k w => match sel (C.f x) with | some b => (k b).run | none => w.run
  | .l _ _ _ L x _ p _ k => bif p then (L.F x).bind fun y => (k y).run else none
  | .ll _ _ _ L x _ p _ _ _ _ sel _ ka kb => bif p then (L.F x).bind fun y => match sel y with | .inl a => (ka a).run | .inr b => (kb b).run else none
  | .r _ _ _ p _ g => bif p then g.run else none
  | .e _ _ p _ y => bif p then some y else none
  | .f => none

/-- Does it answer always? -/
def Gd.tot : Gd P α → Bool
  | .n _ g => g.tot
  | .s _ a b => a.tot && b.tot
  | .i _ _ a b => a.tot && b.tot
  | .d _ _ p _ g => p && g.tot
  | .t _ C x k => (k (C.f x)).tot
  | .m _ C x _ _ sel _ k w => match sel (C.f x) with | some b => (k b).tot | none => w.tot
  | .r _ _ _ p _ g => p && g.tot
  | .e _ _ p _ _ => p
  | _ => false

/-- The answer, if it answers always. -/
def Gd.val (z : α) : Gd P α → α
  | .n _ g => g.val z
  | .s p a b => bif p then a.val z else b.val z
  | .i p _ a b => bif p then a.val z else b.val z
  | .d _ _ _ _ g => g.val z
  | .t _ C x k => (k (C.f x)).val z
  | .m _ C x _ _ sel _ k w => match sel (C.f x) with | some b => (k b).val z | none => w.val z
  | .r _ _ _ _ _ g => g.val z
  | .e _ _ _ _ y => y
  | _ => z

theorem Gd.run_val (z : α) : ∀ (g : Gd P α), g.tot = true → g.run = some (g.val z)
  | .n _ g, h => Gd.run_val z g h
  | .s p a b, h => by
    simp only [Gd.tot, Bool.and_eq_true] at h
    cases p
    · exact Gd.run_val z b h.2
    · exact Gd.run_val z a h.1
  | .i p _ a b, h => by
    simp only [Gd.tot, Bool.and_eq_true] at h
    cases p
    · exact Gd.run_val z b h.2
    · exact Gd.run_val z a h.1
  | .d _ _ p _ g, h => by
    simp only [Gd.tot, Bool.and_eq_true] at h
    simp only [Gd.run, h.1, cond_true, Gd.val]
    exact Gd.run_val z g h.2
  | .t _ C x k, h => Gd.run_val z (k (C.f x)) h
  | .m _ C x _ _ sel _ k w, h => by
    simp only [Gd.tot, Gd.run, Gd.val] at h ⊢
    split at h
    · rename_i b hb
      exact Gd.run_val z (k b) h
    · rename_i hb
      exact Gd.run_val z w h
  | .r _ _ _ p _ g, h => by
    simp only [Gd.tot, Bool.and_eq_true] at h
    simp only [Gd.run, h.1, cond_true, Gd.val]
    exact Gd.run_val z g h.2
  | .e _ _ p _ y, h => by
    have : p = true := h
    simp only [Gd.run, this, cond_true, Gd.val]
  | .c .., h | .o .., h | .l .., h | .ll .., h | .f, h => by cases h

theorem Gd.exp_f (φ : α → β) : ∀ {g : Gd P α}, g.exp φ = .f → g.run = none
  | .n _ g, h => Gd.exp_f φ (g := g) h
  | .f, _ => by simp only [Gd.run]
  | .s .., h | .i .., h | .d .., h | .c .., h | .t .., h | .o .., h | .m .., h | .l .., h | .ll .., h | .r .., h | .e .., h => by cases h

/-! ### one operation -/
def dirC (C : Con P) (σ : List (Nat × Bool)) (x : C.X) (y : C.Y) : Dir := bif C.q then .callq σ (C.V y) none else .call σ (C.V y) (C.H x y) none

/-- A state that an operation turns: the step; the last value; the memory. -/
structure Mc (σ : Type) where
  top : σ → Value
  set : σ → Value → σ
  hp : σ → Heap
  reh : σ → Heap → σ
  set_top : ∀ s, set s (top s) = s
  reh_hp : ∀ s, reh s (hp s) = s

section
variable {T : Type} (M : Mc T) (stp : Option Dir → T → Option (T × List Prop)) (K : T → Gd P α → Out β)

def stepG : Gd P α → T → Out β
  | .n k g, s =>
    match stp none s with
    | some (s1, []) =>
      match k with
      | k + 2 => K s1 (.n (k + 1) g)
      | _ => K s1 g
    | _ => .f
  | .s _ a b, s =>
    match stp none s with
    | some (s1, []) =>
      match M.top s1 with
      | .bool c => .s c (K (M.set s1 (.bool true)) a) (K (M.set s1 (.bool false)) b)
      | _ => .f
    | _ => .f
  | .i _ m a e, s =>
    match stp none s with
    | some (s1, []) =>
      match M.top s1 with
      | .int k n => .s (n == m) (K (M.set s1 (.int k m)) a) (stepG e s)
      | _ => .f
    | _ => .f
  | .d d _ _ _ g, s =>
    match stp (some d) s with
    | some (s1, obs) => .ob obs (K s1 g)
    | none => .f
  | .c σ C x _ _ _ k, s => .all C.Y fun y =>
    match stp (some (dirC C σ x y)) s with
    | some (s1, obs) => .ob obs (K s1 (k y))
    | none => .f
  | .t σ C x k, s => .all C.Y fun y =>
    match stp (some (dirC C.toCon σ x y)) s with
    | some (s1, obs) => .ob obs (K s1 (k y))
    | none => .f
  | .o σ C x B inj _ _ k e, s => .v B (fun b =>
    match stp (some (dirC C σ x (inj (some b)))) s with
    | some (s1, obs) => .ob obs (K s1 (k b))
    | none => .f) (match stp (some (dirC C σ x (inj none))) s with
    | some (s1, obs) => .ob obs (K s1 e)
    | none => .f)
  | .m σ C x B inj _ _ k e, s => .v B (fun b =>
    match stp (some (dirC C.toCon σ x (inj (some b)))) s with
    | some (s1, obs) => .ob obs (K s1 (k b))
    | none => .f) (match stp (some (dirC C.toCon σ x (inj none))) s with
    | some (s1, obs) => .ob obs (K s1 e)
    | none => .f)
  | .r i _ vs _ _ g, s =>
    match (M.hp s)[i]? with
    | some (.live ⟨old, own, row⟩) => .ob [old = vs] (stepG g (M.reh s ((M.hp s).set i (.live ⟨vs, own, row⟩))))
    | _ => .f
  | _, _ => .f

theorem stepG_ok (f : α → β) {y : α} : ∀ {g : Gd P α} {s : T}, stepG M stp K g s = g.exp f → g.run = some y →
    ∃ d s1 obs g1, stp d s = some (s1, obs) ∧ All obs ∧ K s1 g1 = g1.exp f ∧ g1.run = some y
  | .n k g, s, h, hr => by
    unfold stepG at h
    split at h
    · rename_i s1 h1
      split at h
      · exact ⟨none, s1, [], _, h1, trivial, h, hr⟩
      · exact ⟨none, s1, [], _, h1, trivial, h, hr⟩
    · have := Gd.exp_f f (g := g) h.symm
      have hr' : g.run = some y := hr
      rw [this] at hr'; cases hr'
  | .s c a b, s, h, hr => by
    unfold stepG at h
    split at h
    · rename_i s1 h1
      split at h
      · rename_i c' ht
        have h' := h
        simp only [Gd.exp] at h'
        injection h' with e1 e2 e3
        subst e1
        have hr' : (bif c' then a.run else b.run) = some y := hr
        cases c' with
        | true =>
          have e : M.set s1 (.bool true) = s1 := by rw [← ht]; exact M.set_top s1
          exact ⟨none, s1, [], a, h1, trivial, by rw [← e]; exact e2, hr'⟩
        | false =>
          have e : M.set s1 (.bool false) = s1 := by rw [← ht]; exact M.set_top s1
          exact ⟨none, s1, [], b, h1, trivial, by rw [← e]; exact e3, hr'⟩
      · cases h
    · cases h
  | .i c m a b, s, h, hr => by
    unfold stepG at h
    split at h
    · rename_i s1 h1
      split at h
      · rename_i k n ht
        have h' := h
        simp only [Gd.exp] at h'
        injection h' with e1 e2 e3
        subst e1
        have hr' : (bif n == m then a.run else b.run) = some y := hr
        cases hc : (n == m) with
        | true =>
          rw [hc] at hr'
          have en : n = m := eq_of_beq hc
          have e : M.set s1 (.int k m) = s1 := by rw [← en, ← ht]; exact M.set_top s1
          exact ⟨none, s1, [], a, h1, trivial, by rw [← e]; exact e2, hr'⟩
        | false =>
          rw [hc] at hr'
          exact stepG_ok f e3 hr'
      · cases h
    · cases h
  | .d d l b hb g, s, h, hr => by
    unfold stepG at h
    split at h
    · rename_i s1 obs h1
      have h' := h
      simp only [Gd.exp] at h'
      injection h' with e1 e2
      subst e1
      have hr' : (bif b then g.run else none) = some y := hr
      cases b with
      | true => exact ⟨_, s1, obs, g, h1, hb rfl, e2, hr'⟩
      | false => cases hr'
    · cases h
  | .c σ C x l b hb k, s, h, hr => by
    unfold stepG at h
    simp only [Gd.exp] at h
    injection h with e1 e2
    have hr' : ((C.F x).bind fun y => bif b y then (k y).run else none) = some y := hr
    cases hF : C.F x with
    | none => rw [hF] at hr'; cases hr'
    | some z =>
      rw [hF] at hr'
      have e3 := congrFun e2 z
      split at e3
      · rename_i s1 obs h1
        injection e3 with e4 e5
        subst e4
        simp only [Option.bind_some] at hr'
        cases hbz : b z with
        | true => rw [hbz] at hr'; exact ⟨_, s1, _, k z, h1, ⟨C.ok x z hF, (C.N_ok x z).app (hb z hbz)⟩, e5, hr'⟩
        | false => rw [hbz] at hr'; cases hr'
      · cases e3
  | .t σ C x k, s, h, hr => by
    unfold stepG at h
    simp only [Gd.exp] at h
    injection h with e1 e2
    have e3 := congrFun e2 (C.f x)
    split at e3
    · rename_i s1 obs h1
      injection e3 with e4 e5
      subst e4
      exact ⟨_, s1, _, k (C.f x), h1, ⟨C.ok x _ (C.hf x), C.N_ok x _⟩, e5, hr⟩
    · cases e3
  | .o σ C x B inj sel hs k e, s, h, hr => by
    unfold stepG at h
    simp only [Gd.exp] at h
    injection h with e1 e2 e6
    simp only [Gd.run] at hr
    obtain ⟨z, hF, hr⟩ : ∃ z, C.F x = some z ∧ (match sel z with | some b => (k b).run | none => e.run) = some y := by
      cases hF : C.F x with
      | none => rw [hF] at hr; cases hr
      | some z => rw [hF] at hr; exact ⟨z, rfl, hr⟩
    split at hr
    · rename_i b hb
      have e3 := congrFun e2 b
      split at e3
      · rename_i s1 obs h1
        injection e3 with e4 e5
        subst e4
        exact ⟨_, s1, _, k b, h1, ⟨by rw [← hb, hs]; exact C.ok x z hF, C.N_ok x _⟩, e5, hr⟩
      · cases e3
    · rename_i hb
      split at e6
      · rename_i s1 obs h1
        injection e6 with e4 e5
        subst e4
        exact ⟨_, s1, _, e, h1, ⟨by rw [← hb, hs]; exact C.ok x z hF, C.N_ok x _⟩, e5, hr⟩
      · cases e6
  | .m σ C x B inj sel hs k e, s, h, hr => by
    unfold stepG at h
    simp only [Gd.exp] at h
    injection h with e1 e2 e6
    simp only [Gd.run] at hr
    obtain ⟨z, hF, hr⟩ : ∃ z, C.F x = some z ∧ (match sel z with | some b => (k b).run | none => e.run) = some y := ⟨C.f x, C.hf x, hr⟩
    split at hr
    · rename_i b hb
      have e3 := congrFun e2 b
      split at e3
      · rename_i s1 obs h1
        injection e3 with e4 e5
        subst e4
        exact ⟨_, s1, _, k b, h1, ⟨by rw [← hb, hs]; exact C.ok x z hF, C.N_ok x _⟩, e5, hr⟩
      · cases e3
    · rename_i hb
      split at e6
      · rename_i s1 obs h1
        injection e6 with e4 e5
        subst e4
        exact ⟨_, s1, _, e, h1, ⟨by rw [← hb, hs]; exact C.ok x z hF, C.N_ok x _⟩, e5, hr⟩
      · cases e6
  | .r i old vs b hb g, s, h, hr => by
    unfold stepG at h
    split at h
    · rename_i o own row ho
      have h' := h
      simp only [Gd.exp] at h'
      injection h' with e1 e2
      injection e1 with e3 _
      have hr' : (bif b then g.run else none) = some y := hr
      cases b with
      | true =>
        have e4 : o = vs := e3 ▸ hb rfl
        have e5 : M.reh s ((M.hp s).set i (.live ⟨vs, own, row⟩)) = s := by
          rw [← e4]
          have : (M.hp s).set i (.live ⟨o, own, row⟩) = M.hp s := by
            apply List.ext_getElem?
            intro j
            by_cases hj : j = i
            · subst hj; rw [List.getElem?_set_self (List.getElem?_eq_some_iff.1 ho).1, ho]
            · rw [List.getElem?_set_ne (Ne.symm hj)]
          rw [this]; exact M.reh_hp s
        rw [e5] at e2
        exact stepG_ok f e2 hr'
      | false => cases hr'
    · cases h
  | .l .., _, h, _ | .ll .., _, h, _ | .e .., _, h, _ => by cases h
  | .f, _, _, hr => by cases hr

end
end Go.LE
