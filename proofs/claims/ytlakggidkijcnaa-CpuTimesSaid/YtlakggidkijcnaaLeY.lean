import Derived.Test.YtlakggidkijcnaaLeX
set_option linter.all false
/- Contracts out of guides. -/
namespace Go.LE
open Go

variable {P : Program}

@[reducible] def Con.of (hm : P.follows .mixedOrders = true) {X Y : Type} (fn : Nat) (q : Bool) (A : X → List Value) (J : X → List (Sl × Bool)) (V : Y → Value) (H : X → Y → List (Sl × Bool)) (G : X → Gd P Y) (F : X → Option Y) (hF : ∀ x, F x = (G x).run)
    (h : ∀ x, evF P fn (A x) ((J x).map (·.1)) (G x) = (G x).exp fun y => (V y, (H x y).map (·.1))) (nj : ∀ x, All (nad (J x))) (na : ∀ x y, All (nad (H x y))) : Con P where
  na := na
  X := X
  Y := Y
  fn := fn
  q := q
  A := A
  J := J
  nj := nj
  V := V
  H := H
  F := F
  ok := fun x _ hy => evF_ok hm (h x) (by rw [← hF]; exact hy)

@[reducible] def ConT.of (hm : P.follows .mixedOrders = true) {X Y : Type} (fn : Nat) (q : Bool) (A : X → List Value) (J : X → List (Sl × Bool)) (V : Y → Value) (H : X → Y → List (Sl × Bool)) (G : X → Gd P Y) (z : Y) (f : X → Y) (hf : ∀ x, f x = (G x).val z) (ht : ∀ x, (G x).tot = true)
    (h : ∀ x, evF P fn (A x) ((J x).map (·.1)) (G x) = (G x).exp fun y => (V y, (H x y).map (·.1))) (nj : ∀ x, All (nad (J x))) (na : ∀ x y, All (nad (H x y))) : ConT P where
  na := na
  X := X
  Y := Y
  fn := fn
  q := q
  A := A
  J := J
  nj := nj
  V := V
  H := H
  F := fun x => some (f x)
  ok := fun x _ hy => evF_ok hm (h x) (by rw [Gd.run_val z _ (ht x), ← hf]; exact hy)
  f := f
  hf := fun _ => rfl

@[reducible] def LCon.of (hm : P.follows .mixedOrders = true) {X Y : Type} (N n0 : Nat) (c : Code) (keep : Ex → List Nat) (tmI : X → Tm) (hI : X → Heap) (ex : Y → Ex) (tmO : Y → Tm) (hO : Y → Heap) (hex : ∀ y, ex y ≠ .normal) (B : X → Gd P (X ⊕ Y)) (fuel : X → Nat)
    (F : X → Option Y) (hF : ∀ x, F x = rounds (fun x => (B x).run) (fuel x) x)
    (h : ∀ x, evB P N n0 c keep (tmI x) (hI x) (B x) = (B x).exp fun r => match r with | .inl x' => (.normal, tmI x', hI x') | .inr y => (ex y, tmO y, hO y)) : LCon P where
  X := X
  Y := Y
  N := N
  n0 := n0
  c := c
  tmI := tmI
  hI := hI
  ex := ex
  tmO := tmO
  hO := hO
  F := F
  ok := fun x y hy => by
    rw [hF] at hy
    exact rounds_ok (fun x => (B x).run) tmI hI ex tmO hO hex (fun s s' hs => evB_ok hm (h s) hs) (fun s o ho => evB_ok hm (h s) ho) (fuel x) x y hy

/-- The n-th loop of a code, from without. -/
def loopsOf : Code → List Code
  | .loop c => c :: loopsOf c
  | .seq a b => loopsOf a ++ loopsOf b
  | .cond _ a b => loopsOf a ++ loopsOf b
  | .block _ c => loopsOf c
  | .scope c => loopsOf c
  | _ => []
def loopOf (P : Program) (f i : Nat) : Code :=
  match P.funcs[f]? with
  | some fn =>
    match fn.body with
    | some c => (loopsOf c).getD i .skip
    | none => .skip
  | none => .skip

/-! ### short words of guides -/
variable {α : Type}
def Gd.k (σ : List (Nat × Bool)) (C : Con P) (x : C.X) (g : C.Y → Gd P α) : Gd P α := .c σ C x (fun _ => []) (fun _ => true) (fun _ _ => trivial) g
def Gd.z (out : List (Nat × Bool)) (y : α) : Gd P α := .e out [] true (fun _ => trivial) y
/-- A count that is not negative (a shift's). -/
def Gd.q (a : Int) (g : Gd P α) : Gd P α := .d (.d true none) [0 ≤ a] (decide (0 ≤ a)) (fun h => ⟨of_decide_eq_true h, trivial⟩) g
/-- A byte of a string. -/
def Gd.si (t : ByteArray) (n : Int) (g : Gd P α) : Gd P α := .d (.d true none) [0 ≤ n ∧ n < t.size] (decide (0 ≤ n ∧ n < t.size)) (fun h => ⟨of_decide_eq_true h, trivial⟩) g
/-- Two strings, one behind the other. -/
def Gd.sa (a b : ByteArray) (g : Gd P α) : Gd P α := .d (.d true none) [((a.size + b.size : Nat) : Int) ≤ 9223372036854775807] (decide (((a.size + b.size : Nat) : Int) ≤ 9223372036854775807)) (fun h => ⟨of_decide_eq_true h, trivial⟩) g
def selB (b : Bool) : Option Unit := bif b then some () else none
theorem selB_ok (b : Bool) : Option.isSome (selB b) = b := by cases b <;> rfl

/-- An array's number by a number. -/
theorem ix_ok {e : TypeId} {k : IntKind} {l : List Int} {n : Int} (ha : aggOf P e = some false) (h : decide (0 ≤ n ∧ n < (l.length : Int)) = true) :
    All [0 ≤ n ∧ n < (l.length : Int), lpart P e (l.map (Value.int k)) (n.toNat * 1) = some (.int k (l.getD n.toNat 0))] := by
  have h' := of_decide_eq_true h
  refine ⟨h', ?_, trivial⟩
  have hl : n.toNat < l.length := by omega
  simp only [lpart, ha, Nat.mul_one, List.getElem?_map, List.getElem?_eq_getElem hl, List.getD_eq_getElem?_getD, Option.map_some, Option.getD_some]
def Gd.ix (e : TypeId) (k : IntKind) (l : List Int) (n : Int) (ha : aggOf P e = some false) (g : Gd P α) : Gd P α :=
  .d (.d false (some (.int k (l.getD n.toNat 0)))) [0 ≤ n ∧ n < (l.length : Int), lpart P e (l.map (Value.int k)) (n.toNat * 1) = some (.int k (l.getD n.toNat 0))] (decide (0 ≤ n ∧ n < (l.length : Int))) (fun h => ix_ok ha h) g
def Gd.ia (n : Int) (len : Nat) (g : Gd P α) : Gd P α := .d (.d true none) [0 ≤ n ∧ n < (len : Int)] (decide (0 ≤ n ∧ n < (len : Int))) (fun h => ⟨of_decide_eq_true h, trivial⟩) g
theorem lx_ok {k : IntKind} {l : List Int} {o : Nat} (h : decide (o < l.length) = true) : All [(l.map (Value.int k))[o]? = some (.int k (l.getD o 0))] := by
  have hl := of_decide_eq_true h
  refine ⟨?_, trivial⟩
  simp only [List.getElem?_map, List.getElem?_eq_getElem hl, List.getD_eq_getElem?_getD, Option.map_some, Option.getD_some]
/-- A cell of numbers, and how it is set. -/
def Gd.lx (k : IntKind) (l : List Int) (o : Nat) (g : Gd P α) : Gd P α := .d (.d false (some (.int k (l.getD o 0)))) [(l.map (Value.int k))[o]? = some (.int k (l.getD o 0))] (decide (o < l.length)) (fun h => lx_ok h) g
def Gd.sx (o len : Nat) (g : Gd P α) : Gd P α := .d (.d true none) [o + 1 ≤ len] (decide (o + 1 ≤ len)) (fun h => ⟨of_decide_eq_true h, trivial⟩) g
def stI (o j : Nat) (w a : Int) : Int := bif Nat.beq o j then w else a
def stL (o : Nat) (w : Int) : List Int → Nat → List Int
  | [], _ => []
  | a :: l, j => stI o j w a :: stL o w l (j + 1)
theorem stL_get (o : Nat) (w : Int) : ∀ (l : List Int) (j i : Nat), (stL o w l j)[i]? = (l[i]?).map fun a => stI o (j + i) w a
  | [], _, _ => by simp [stL]
  | a :: l, j, 0 => by simp [stL]
  | a :: l, j, i + 1 => by
    simp only [stL, List.getElem?_cons_succ]
    rw [stL_get o w l (j + 1) i, show j + 1 + i = j + (i + 1) by omega]
theorem rx_ok (k : IntKind) (l : List Int) (o : Nat) (w : Int) : setCells (l.map (Value.int k)) o [.int k w] = (stL o w l 0).map (Value.int k) := by
  apply List.ext_getElem?
  intro i
  simp only [setCells, List.getElem?_map, stL_get, Nat.zero_add, List.getElem?_set, List.length_map]
  by_cases h : o = i
  · subst h
    cases hl : l[o]? with
    | none =>
      have := List.getElem?_eq_none_iff.1 hl
      simp [show ¬ o < l.length by omega]
    | some a =>
      have := (List.getElem?_eq_some_iff.1 hl).1
      simp [this, stI]
  · cases hl : l[i]? with
    | none => simp [h]
    | some a => simp [h, stI, show Nat.beq o i = false from by cases hb : Nat.beq o i with | true => exact absurd (Nat.eq_of_beq_eq_true hb) h | false => rfl]
def Gd.rx (i : Nat) (k : IntKind) (l : List Int) (o : Nat) (w : Int) (g : Gd P α) : Gd P α := .r i (setCells (l.map (Value.int k)) o [.int k w]) ((stL o w l 0).map (Value.int k)) true (fun _ => rx_ok k l o w) g

/-! lists of structures -/
theorem flat_len {T : Type} {cf : T → List Value} {z : Nat} (hz : ∀ t, (cf t).length = z) : ∀ (L : List T), (L.flatMap cf).length = L.length * z
  | [] => by simp
  | a :: L => by rw [List.flatMap_cons, List.length_append, hz, flat_len hz L, List.length_cons, Nat.add_mul]; omega
theorem flat_sub {T : Type} {cf : T → List Value} {z : Nat} (hz : ∀ t, (cf t).length = z) (d : T) : ∀ (L : List T) (i : Nat), i < L.length → sub (L.flatMap cf) (i * z) z = cf (L.getD i d)
  | [], i, h => by simp at h
  | a :: L, 0, _ => by simp [sub, List.flatMap_cons, ← hz a]
  | a :: L, i + 1, h => by
    have ih := flat_sub hz d L i (by simpa using h)
    have e : (cf a ++ L.flatMap cf).drop ((i + 1) * z) = (L.flatMap cf).drop (i * z) := by
      rw [List.drop_append, hz a, List.drop_of_length_le (by rw [hz a, Nat.add_mul]; omega), List.nil_append]
      congr 1
      rw [Nat.add_mul]; omega
    simp only [sub, List.flatMap_cons, e, List.getD_cons_succ] at ih ⊢
    exact ih
def Gd.ae {T : Type} (cf : T → List Value) (z : Nat) (hz : ∀ t, (cf t).length = z) (L : List T) (n : Int) (g : Gd P α) (hz0 : 0 < z := by decide) : Gd P α :=
  .d (.d true none) [(0 ≤ n ∧ n < (L.length : Int)) ∧ 0 + n.toNat * z < (L.flatMap cf).length] (decide (0 ≤ n ∧ n < (L.length : Int)))
    (fun h => ⟨⟨of_decide_eq_true h, by
      have h' := of_decide_eq_true h
      rw [flat_len hz, Nat.zero_add]
      exact Nat.mul_lt_mul_of_pos_right (by omega) hz0⟩, trivial⟩) g
def Gd.le {T : Type} (cf : T → List Value) (z : Nat) (d : T) (hz : ∀ t, (cf t).length = z) (L : List T) (i : Nat) (g : Gd P α) : Gd P α :=
  .d (.d false (some (.agg ⟨cf (L.getD i d)⟩))) [sub (L.flatMap cf) (0 + i * z) z = cf (L.getD i d), (cf (L.getD i d)).length = z] (decide (i < L.length))
    (fun h => ⟨by rw [Nat.zero_add]; exact flat_sub hz d L i (of_decide_eq_true h), hz _, trivial⟩) g
theorem na_flat {T : Type} {cf : T → List Value} (hc : ∀ t, (cf t).all (wf1 []) = true) (L : List T) : NoAddr (L.flatMap cf) := fun v hv => by
  obtain ⟨t, _, h⟩ := List.mem_flatMap.1 hv
  exact List.all_eq_true.1 (hc t) v h
def Gd.zl {T : Type} (out : List (Nat × Bool)) (cf : T → List Value) (hc : ∀ t, (cf t).all (wf1 []) = true) (L : List T) (y : α) : Gd P α := .e out [NoAddr (L.flatMap cf)] true (fun _ => ⟨na_flat hc L, trivial⟩) y
/-- A part of an element. -/
def Gd.lf {T : Type} (cf : T → List Value) (z f : Nat) (d : T) (hz : ∀ t, (cf t).length = z) (W : T → Value) (hw : ∀ t, (cf t)[f]? = some (W t)) (L : List T) (i : Nat) (g : Gd P α) : Gd P α :=
  .d (.d false (some (W (L.getD i d)))) [(L.flatMap cf)[0 + i * z + f]? = some (W (L.getD i d))] (decide (i < L.length))
    (fun h => ⟨by
      have e := flat_sub hz d L i (of_decide_eq_true h)
      have hf : f < z := by
        have := (List.getElem?_eq_some_iff.1 (hw d)).1
        rw [hz] at this
        exact this
      have := hw (L.getD i d)
      rw [← e, sub, List.getElem?_take_of_lt hf, List.getElem?_drop] at this
      rw [Nat.zero_add]
      exact this, trivial⟩) g
/-- Numbers one behind the other. -/
def uc (k : IntKind) (x : Int) : List Value := [.int k x]
def Gd.li (k : IntKind) (L : List Int) (i : Nat) (g : Gd P α) : Gd P α :=
  .d (.d false (some (.int k (L.getD i 0)))) [(L.flatMap (uc k))[0 + i * 1]? = some (.int k (L.getD i 0))] (decide (i < L.length))
    (fun h => ⟨by
      have hi := of_decide_eq_true h
      have e : L.flatMap (uc k) = L.map (Value.int k) := by
        clear h hi
        induction L with
        | nil => rfl
        | cons a l ih => rw [List.flatMap_cons, ih]; rfl
      rw [e, Nat.zero_add, Nat.mul_one]
      simp only [List.getElem?_map, List.getElem?_eq_getElem hi, List.getD_eq_getElem?_getD, Option.map_some, Option.getD_some], trivial⟩) g
/-- Elements are appended to a list. -/
def Gd.ap {T : Type} (cf : T → List Value) (z by1 : Nat) (hz : ∀ t, (cf t).length = z) (L A : List T) (xs : List Value) (oj m i : Nat) (hx : sub xs oj (m * z) = A.flatMap cf) (hm : A.length = m) (g : Gd P α) : Gd P α :=
  .d (.d true (some (.slice (some ⟨i, 0, none⟩) (L ++ A).length 0)))
    [Value.slice (some ⟨i, 0, none⟩) (L.length + m) 0 = .slice (some ⟨i, 0, none⟩) (L ++ A).length 0, (L.flatMap cf).length = L.length * z ∧ (sub xs oj (m * z)).length = m * z ∧ (L.length + m) * by1 ≤ 140737488355328] (decide ((L.length + m) * by1 ≤ 140737488355328))
    (fun h => ⟨by rw [List.length_append, hm], ⟨flat_len hz L, by rw [hx, flat_len hz, hm], of_decide_eq_true h⟩, trivial⟩)
    (.r i (L.flatMap cf ++ sub xs oj (m * z)) ((L ++ A).flatMap cf) true (fun _ => by rw [hx, List.flatMap_append]) g)
theorem all_is {l : List Prop} (h : True = All l) : All l := h ▸ trivial
/-- A list that is appended to a list. -/
def Gd.al {T : Type} (cf : T → List Value) (z by1 : Nat) (hz : ∀ t, (cf t).length = z) (L A : List T) (i : Nat) (g : Gd P α) : Gd P α :=
  .d (.d true (some (.slice (some ⟨i, 0, none⟩) (L ++ A).length 0)))
    [Value.slice (some ⟨i, 0, none⟩) (L.length + A.length) 0 = .slice (some ⟨i, 0, none⟩) (L ++ A).length 0, (L.flatMap cf).length = L.length * z ∧ (sub (A.flatMap cf) 0 (A.length * z)).length = A.length * z ∧ (L.length + A.length) * by1 ≤ 140737488355328] (decide ((L.length + A.length) * by1 ≤ 140737488355328))
    (fun h => ⟨by rw [List.length_append], ⟨flat_len hz L, by simp only [sub, List.drop_zero, List.length_take, flat_len hz, Nat.min_self], of_decide_eq_true h⟩, trivial⟩)
    (.r i (L.flatMap cf ++ sub (A.flatMap cf) 0 (A.length * z)) ((L ++ A).flatMap cf) true (fun _ => by rw [List.flatMap_append]; simp only [sub, List.drop_zero, ← flat_len hz, List.take_length]) g)
def nf (s : Sl) : Sl × Bool := (s, false)
def same (h : Heap) : List (Sl × Bool) := h.map nf

/-! ### what a guide comes to -/
/-- The guide's way is gone to its end, where Q holds. -/
def Gd.wp (Q : α → Prop) : Gd P α → Prop
  | .n _ g => g.wp Q
  | .s p a b => (p = true → a.wp Q) ∧ (p = false → b.wp Q)
  | .i p _ a b => (p = true → a.wp Q) ∧ (p = false → b.wp Q)
  | .d _ _ p _ g => p = true ∧ g.wp Q
  | .c _ C x _ p _ k => ∃ y, C.F x = some y ∧ p y = true ∧ (k y).wp Q
  | .t _ C x k => (k (C.f x)).wp Q
  | .o _ C x _ _ sel _ k w => ∃ y, C.F x = some y ∧ (∀ b, sel y = some b → (k b).wp Q) ∧ (sel y = none → w.wp Q)
  | .m _ C x _ _ sel _ k w => (∀ b, sel (C.f x) = some b → (k b).wp Q) ∧ (sel (C.f x) = none → w.wp Q)
  | .l _ _ _ L x _ p _ k => p = true ∧ ∃ y, L.F x = some y ∧ (k y).wp Q
  | .ll _ _ _ L x _ p _ _ _ _ sel _ ka kb => p = true ∧ ∃ y, L.F x = some y ∧ (∀ a, sel y = .inl a → (ka a).wp Q) ∧ (∀ b, sel y = .inr b → (kb b).wp Q)
  | .r _ _ _ p _ g => p = true ∧ g.wp Q
  | .e _ _ p _ y => p = true ∧ Q y
  | .f => False

theorem Gd.wp_ok {Q : α → Prop} : ∀ {g : Gd P α}, g.wp Q → ∃ y, g.run = some y ∧ Q y
  | .n _ g, h => Gd.wp_ok (g := g) h
  | .s p a b, ⟨h1, h2⟩ => by
    cases p
    · exact Gd.wp_ok (g := b) (h2 rfl)
    · exact Gd.wp_ok (g := a) (h1 rfl)
  | .i p _ a b, ⟨h1, h2⟩ => by
    cases p
    · exact Gd.wp_ok (g := b) (h2 rfl)
    · exact Gd.wp_ok (g := a) (h1 rfl)
  | .d _ _ p _ g, ⟨h1, h2⟩ => by
    obtain ⟨y, h3, h4⟩ := Gd.wp_ok (g := g) h2
    exact ⟨y, by simp only [Gd.run, h1, cond_true, h3], h4⟩
  | .c _ C x _ p _ k, ⟨z, h1, h2, h3⟩ => by
    obtain ⟨y, h4, h5⟩ := Gd.wp_ok (g := k z) h3
    exact ⟨y, by simp only [Gd.run, h1, Option.bind_some, h2, cond_true, h4], h5⟩
  | .t _ C x k, h => Gd.wp_ok (g := k (C.f x)) h
  | .o _ C x _ _ sel _ k w, ⟨z, h1, h2, h3⟩ => by
    cases hs : sel z with
    | none =>
      obtain ⟨y, h4, h5⟩ := Gd.wp_ok (g := w) (h3 hs)
      exact ⟨y, by simp only [Gd.run, h1, Option.bind_some, hs, h4], h5⟩
    | some b =>
      obtain ⟨y, h4, h5⟩ := Gd.wp_ok (g := k b) (h2 b hs)
      exact ⟨y, by simp only [Gd.run, h1, Option.bind_some, hs, h4], h5⟩
  | .m _ C x _ _ sel _ k w, ⟨h2, h3⟩ => by
    cases hs : sel (C.f x) with
    | none =>
      obtain ⟨y, h4, h5⟩ := Gd.wp_ok (g := w) (h3 hs)
      exact ⟨y, by simp only [Gd.run, hs, h4], h5⟩
    | some b =>
      obtain ⟨y, h4, h5⟩ := Gd.wp_ok (g := k b) (h2 b hs)
      exact ⟨y, by simp only [Gd.run, hs, h4], h5⟩
  | .l _ _ _ L x _ p _ k, ⟨h1, z, h2, h3⟩ => by
    obtain ⟨y, h4, h5⟩ := Gd.wp_ok (g := k z) h3
    exact ⟨y, by simp only [Gd.run, h1, cond_true, h2, Option.bind_some, h4], h5⟩
  | .ll _ _ _ L x _ p _ _ _ _ sel _ ka kb, ⟨h1, z, h2, h3, h4⟩ => by
    cases hs : sel z with
    | inl b =>
      obtain ⟨y, h5, h6⟩ := Gd.wp_ok (g := ka b) (h3 b hs)
      exact ⟨y, by simp only [Gd.run, h1, cond_true, h2, Option.bind_some, hs, h5], h6⟩
    | inr b =>
      obtain ⟨y, h5, h6⟩ := Gd.wp_ok (g := kb b) (h4 b hs)
      exact ⟨y, by simp only [Gd.run, h1, cond_true, h2, Option.bind_some, hs, h5], h6⟩
  | .r _ _ _ p _ g, ⟨h1, h2⟩ => by
    obtain ⟨y, h3, h4⟩ := Gd.wp_ok (g := g) h2
    exact ⟨y, by simp only [Gd.run, h1, cond_true, h3], h4⟩
  | .e _ _ p _ y, ⟨h1, h2⟩ => ⟨y, by simp only [Gd.run, show p = true from h1, cond_true], h2⟩

theorem Gd.run_ll {keep : List Nat} {out : List (Nat × Bool)} {nils : List (Nat × Nat × Nat)} {L : LCon P} {x : L.X} {ps : List Prop} {h : true = true → All ps} {A B : Type} {inj : A ⊕ B → L.Y} {sel : L.Y → A ⊕ B} {hs : ∀ y, inj (sel y) = y} {ka : A → Gd P α} {kb : B → Gd P α} {y : L.Y} (hy : L.F x = some y) :
    Gd.run (.ll keep out nils L x ps true h A B inj sel hs ka kb) = match sel y with | .inl a => (ka a).run | .inr z => (kb z).run := by
  simp only [Gd.run, cond_true, hy, Option.bind_some]
  cases sel y <;> rfl
theorem Gd.run_l {keep : List Nat} {out : List (Nat × Bool)} {nils : List (Nat × Nat × Nat)} {L : LCon P} {x : L.X} {ps : List Prop} {h : true = true → All ps} {k : L.Y → Gd P α} {y : L.Y} (hy : L.F x = some y) :
    Gd.run (.l keep out nils L x ps true h k) = (k y).run := by
  simp only [Gd.run, cond_true, hy, Option.bind_some]
end Go.LE
