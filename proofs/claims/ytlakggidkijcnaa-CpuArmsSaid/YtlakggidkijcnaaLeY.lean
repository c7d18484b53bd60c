import Derived.Test.YtlakggidkijcnaaLeX
set_option linter.all false
/- Contracts out of guides. -/
namespace Go.LE
open Go

variable {P : Program}

def Con.of (hm : P.follows .mixedOrders = true) {X Y : Type} (fn : Nat) (q : Bool) (A : X → List Value) (I : X → Heap) (V : Y → Value) (H : X → Y → List (Sl × Bool)) (G : X → Gd P Y) (F : X → Option Y) (hF : ∀ x, F x = (G x).run)
    (h : ∀ x, evF P fn (A x) (I x) (G x) = (G x).exp fun y => (V y, (H x y).map (·.1))) (na : ∀ x y, All (nad (H x y))) : Con P where
  na := na
  X := X
  Y := Y
  fn := fn
  q := q
  A := A
  I := I
  V := V
  H := H
  F := F
  ok := fun x _ hy => evF_ok hm (h x) (by rw [← hF]; exact hy)

def ConT.of (hm : P.follows .mixedOrders = true) {X Y : Type} (fn : Nat) (q : Bool) (A : X → List Value) (I : X → Heap) (V : Y → Value) (H : X → Y → List (Sl × Bool)) (G : X → Gd P Y) (z : Y) (f : X → Y) (hf : ∀ x, f x = (G x).val z) (ht : ∀ x, (G x).tot = true)
    (h : ∀ x, evF P fn (A x) (I x) (G x) = (G x).exp fun y => (V y, (H x y).map (·.1))) (na : ∀ x y, All (nad (H x y))) : ConT P where
  na := na
  X := X
  Y := Y
  fn := fn
  q := q
  A := A
  I := I
  V := V
  H := H
  F := fun x => some (f x)
  ok := fun x _ hy => evF_ok hm (h x) (by rw [Gd.run_val z _ (ht x), ← hf]; exact hy)
  f := f
  hf := fun _ => rfl

def LCon.of (hm : P.follows .mixedOrders = true) {X Y : Type} (N n0 : Nat) (c : Code) (keepN keepX : List Nat) (tmI : X → Tm) (hI : X → Heap) (ex : Y → Ex) (tmO : Y → Tm) (hO : Y → Heap) (hex : ∀ y, ex y ≠ .normal) (B : X → Gd P (X ⊕ Y)) (fuel : X → Nat)
    (F : X → Option Y) (hF : ∀ x, F x = rounds (fun x => (B x).run) (fuel x) x)
    (h : ∀ x, evB P N n0 c keepN keepX (tmI x) (hI x) (B x) = (B x).exp fun r => match r with | .inl x' => (.normal, tmI x', hI x') | .inr y => (ex y, tmO y, hO y)) : LCon P where
  X := X
  Y := Y
  N := N
  n0 := n0
  c := c
  tmI := tmI
  hI := hI
  ex := ex
  tmO := tmO
  hO := hO
  F := F
  ok := fun x y hy => by
    rw [hF] at hy
    exact rounds_ok (fun x => (B x).run) tmI hI ex tmO hO hex (fun s s' hs => evB_ok hm (h s) hs) (fun s o ho => evB_ok hm (h s) ho) (fuel x) x y hy

/-- The n-th loop of a code, from without. -/
def loopsOf : Code → List Code
  | .loop c => c :: loopsOf c
  | .seq a b => loopsOf a ++ loopsOf b
  | .cond _ a b => loopsOf a ++ loopsOf b
  | .block _ c => loopsOf c
  | .scope c => loopsOf c
  | _ => []
def loopOf (P : Program) (f i : Nat) : Code :=
  match P.funcs[f]? with
  | some fn =>
    match fn.body with
    | some c => (loopsOf c).getD i .skip
    | none => .skip
  | none => .skip

/-! ### short words of guides -/
variable {α : Type}
def Gd.k (σ : List (Nat × Bool)) (C : Con P) (x : C.X) (g : C.Y → Gd P α) : Gd P α := .c σ C x (fun _ => []) (fun _ => true) (fun _ _ => trivial) g
def Gd.z (out : List (Nat × Bool)) (y : α) : Gd P α := .e out [] true (fun _ => trivial) y
/-- A count that is not negative (a shift's). -/
def Gd.q (a : Int) (g : Gd P α) : Gd P α := .d (.d true none) [0 ≤ a] (decide (0 ≤ a)) (fun h => ⟨of_decide_eq_true h, trivial⟩) g
def selB (b : Bool) : Option Unit := bif b then some () else none
theorem selB_ok (b : Bool) : Option.isSome (selB b) = b := by cases b <;> rfl

/-- An array's number by a number. -/
theorem ix_ok {e : TypeId} {k : IntKind} {l : List Int} {n : Int} (ha : aggOf P e = some false) (h : decide (0 ≤ n ∧ n < (l.length : Int)) = true) :
    All [0 ≤ n ∧ n < (l.length : Int), lpart P e (l.map (Value.int k)) (n.toNat * 1) = some (.int k (l.getD n.toNat 0))] := by
  have h' := of_decide_eq_true h
  refine ⟨h', ?_, trivial⟩
  have hl : n.toNat < l.length := by omega
  simp only [lpart, ha, Nat.mul_one, List.getElem?_map, List.getElem?_eq_getElem hl, List.getD_eq_getElem?_getD, Option.map_some, Option.getD_some]
def Gd.ix (e : TypeId) (k : IntKind) (l : List Int) (n : Int) (ha : aggOf P e = some false) (g : Gd P α) : Gd P α :=
  .d (.d false (some (.int k (l.getD n.toNat 0)))) [0 ≤ n ∧ n < (l.length : Int), lpart P e (l.map (Value.int k)) (n.toNat * 1) = some (.int k (l.getD n.toNat 0))] (decide (0 ≤ n ∧ n < (l.length : Int))) (fun h => ix_ok ha h) g
def Gd.ia (n : Int) (len : Nat) (g : Gd P α) : Gd P α := .d (.d true none) [0 ≤ n ∧ n < (len : Int)] (decide (0 ≤ n ∧ n < (len : Int))) (fun h => ⟨of_decide_eq_true h, trivial⟩) g
theorem lx_ok {k : IntKind} {l : List Int} {o : Nat} (h : decide (o < l.length) = true) : All [(l.map (Value.int k))[o]? = some (.int k (l.getD o 0))] := by
  have hl := of_decide_eq_true h
  refine ⟨?_, trivial⟩
  simp only [List.getElem?_map, List.getElem?_eq_getElem hl, List.getD_eq_getElem?_getD, Option.map_some, Option.getD_some]
/-- A cell of numbers, and how it is set. -/
def Gd.lx (k : IntKind) (l : List Int) (o : Nat) (g : Gd P α) : Gd P α := .d (.d false (some (.int k (l.getD o 0)))) [(l.map (Value.int k))[o]? = some (.int k (l.getD o 0))] (decide (o < l.length)) (fun h => lx_ok h) g
def Gd.sx (o len : Nat) (g : Gd P α) : Gd P α := .d (.d true none) [o + 1 ≤ len] (decide (o + 1 ≤ len)) (fun h => ⟨of_decide_eq_true h, trivial⟩) g
def stI (o j : Nat) (w a : Int) : Int := bif Nat.beq o j then w else a
def stL (o : Nat) (w : Int) : List Int → Nat → List Int
  | [], _ => []
  | a :: l, j => stI o j w a :: stL o w l (j + 1)
theorem stL_get (o : Nat) (w : Int) : ∀ (l : List Int) (j i : Nat), (stL o w l j)[i]? = (l[i]?).map fun a => stI o (j + i) w a
  | [], _, _ => by simp [stL]
  | a :: l, j, 0 => by simp [stL]
  | a :: l, j, i + 1 => by
    simp only [stL, List.getElem?_cons_succ]
    rw [stL_get o w l (j + 1) i, show j + 1 + i = j + (i + 1) by omega]
theorem rx_ok (k : IntKind) (l : List Int) (o : Nat) (w : Int) : setCells (l.map (Value.int k)) o [.int k w] = (stL o w l 0).map (Value.int k) := by
  apply List.ext_getElem?
  intro i
  simp only [setCells, List.getElem?_map, stL_get, Nat.zero_add, List.getElem?_set, List.length_map]
  by_cases h : o = i
  · subst h
    cases hl : l[o]? with
    | none =>
      have := List.getElem?_eq_none_iff.1 hl
      simp [show ¬ o < l.length by omega]
    | some a =>
      have := (List.getElem?_eq_some_iff.1 hl).1
      simp [this, stI]
  · cases hl : l[i]? with
    | none => simp [h]
    | some a => simp [h, stI, show Nat.beq o i = false from by cases hb : Nat.beq o i with | true => exact absurd (Nat.eq_of_beq_eq_true hb) h | false => rfl]
def Gd.rx (i : Nat) (k : IntKind) (l : List Int) (o : Nat) (w : Int) (g : Gd P α) : Gd P α := .r i (setCells (l.map (Value.int k)) o [.int k w]) ((stL o w l 0).map (Value.int k)) true (fun _ => rx_ok k l o w) g

/-! lists of structures -/
theorem flat_len {T : Type} {cf : T → List Value} {z : Nat} (hz : ∀ t, (cf t).length = z) : ∀ (L : List T), (L.flatMap cf).length = L.length * z
  | [] => by simp
  | a :: L => by rw [List.flatMap_cons, List.length_append, hz, flat_len hz L, List.length_cons, Nat.add_mul]; omega
theorem flat_sub {T : Type} {cf : T → List Value} {z : Nat} (hz : ∀ t, (cf t).length = z) (d : T) : ∀ (L : List T) (i : Nat), i < L.length → sub (L.flatMap cf) (i * z) z = cf (L.getD i d)
  | [], i, h => by simp at h
  | a :: L, 0, _ => by simp [sub, List.flatMap_cons, ← hz a]
  | a :: L, i + 1, h => by
    have ih := flat_sub hz d L i (by simpa using h)
    have e : (cf a ++ L.flatMap cf).drop ((i + 1) * z) = (L.flatMap cf).drop (i * z) := by
      rw [List.drop_append, hz a, List.drop_of_length_le (by rw [hz a, Nat.add_mul]; omega), List.nil_append]
      congr 1
      rw [Nat.add_mul]; omega
    simp only [sub, List.flatMap_cons, e, List.getD_cons_succ] at ih ⊢
    exact ih
def Gd.ae {T : Type} (cf : T → List Value) (z : Nat) (hz : ∀ t, (cf t).length = z) (L : List T) (n : Int) (g : Gd P α) (hz0 : 0 < z := by decide) : Gd P α :=
  .d (.d true none) [(0 ≤ n ∧ n < (L.length : Int)) ∧ 0 + n.toNat * z < (L.flatMap cf).length] (decide (0 ≤ n ∧ n < (L.length : Int)))
    (fun h => ⟨⟨of_decide_eq_true h, by
      have h' := of_decide_eq_true h
      rw [flat_len hz, Nat.zero_add]
      exact Nat.mul_lt_mul_of_pos_right (by omega) hz0⟩, trivial⟩) g
def Gd.le {T : Type} (cf : T → List Value) (z : Nat) (d : T) (hz : ∀ t, (cf t).length = z) (L : List T) (i : Nat) (g : Gd P α) : Gd P α :=
  .d (.d false (some (.agg ⟨cf (L.getD i d)⟩))) [sub (L.flatMap cf) (0 + i * z) z = cf (L.getD i d), (cf (L.getD i d)).length = z] (decide (i < L.length))
    (fun h => ⟨by rw [Nat.zero_add]; exact flat_sub hz d L i (of_decide_eq_true h), hz _, trivial⟩) g
theorem na_flat {T : Type} {cf : T → List Value} (hc : ∀ t, (cf t).all (wf1 []) = true) (L : List T) : NoAddr (L.flatMap cf) := fun v hv => by
  obtain ⟨t, _, h⟩ := List.mem_flatMap.1 hv
  exact List.all_eq_true.1 (hc t) v h
def Gd.zl {T : Type} (out : List (Nat × Bool)) (cf : T → List Value) (hc : ∀ t, (cf t).all (wf1 []) = true) (L : List T) (y : α) : Gd P α := .e out [NoAddr (L.flatMap cf)] true (fun _ => ⟨na_flat hc L, trivial⟩) y
theorem all_is {l : List Prop} (h : True = All l) : All l := h ▸ trivial
def nf (s : Sl) : Sl × Bool := (s, false)
def same (h : Heap) : List (Sl × Bool) := h.map nf
end Go.LE
