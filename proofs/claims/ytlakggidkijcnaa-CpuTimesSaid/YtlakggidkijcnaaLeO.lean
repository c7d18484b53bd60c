import Derived.Test.YtlakggidkijcnaaLeN
set_option linter.all false
/- Regions that draw their order. -/
namespace Go.LE
open Go

/-! ### the memory of a region's beginning, seen later -/
theorem Inv.take {base : Nat} {h h0 : Heap} {ρ : Rho} {w : World} (hi : Inv base h ρ w) (hle : h0.length ≤ h.length) (hsame : ∀ i, i < h0.length → h[i]? = h0[i]?) (hw : WfHeap h0) : Inv base h0 (ρ.take h0.length) w := by
  have e : h.take h0.length = h0 := by
    apply List.ext_getElem?
    intro i
    rcases Nat.lt_or_ge i h0.length with hl | hl
    · rw [List.getElem?_take_of_lt hl, hsame i hl]
    · rw [List.getElem?_eq_none (by rw [List.length_take]; omega), List.getElem?_eq_none hl]
  have m := (Moves.refl hi)
  refine
    { len := by rw [List.length_take, hi.len]; omega
      base_le := hi.base_le
      blk := fun i b hb => ?_
      apart := fun i j bi bj li lj hij h1 h2 o1 o2 r1 r2 n1 n2 => ?_ }
  · have hin := born_lt (born_live hb)
    obtain ⟨l, hl, _, hc⟩ := hi.blk i b (by rw [hsame i hin]; exact hb)
    have tr_ : ∀ v ∈ b.vals, tr1 (ρ.take h0.length) v = tr1 ρ v := fun v hv =>
      tr1_congr (fun i hi => List.getElem?_take_of_lt (born_lt hi)) v (hw i b hb v hv)
    refine ⟨l, by rw [List.getElem?_take_of_lt hin]; exact hl, hw i b hb, ?_⟩
    rcases hc with hc | ⟨h1, h2, h3, cs, e1, fr, h4, h5, h6, h7⟩ | ⟨h1, h2, h3, h4⟩
    · exact .inl hc
    · exact .inr (.inl ⟨h1, h2, h3, cs, e1, fr, h4, h5, h6, fun j v hj => by rw [tr_ v (List.mem_of_getElem? hj)]; exact h7 j v hj⟩)
    · exact .inr (.inr ⟨h1, h2, h3, fun j v hj => by rw [tr_ v (List.mem_of_getElem? hj)]; exact h4 j v hj⟩)
  · have a1 := born_lt (born_live h1)
    have a2 := born_lt (born_live h2)
    rw [List.getElem?_take_of_lt a1] at r1
    rw [List.getElem?_take_of_lt a2] at r2
    exact hi.apart i j bi bj li lj hij (by rw [hsame i a1]; exact h1) (by rw [hsame j a2]; exact h2) o1 o2 r1 r2 n1 n2

/-- What leaves the memory of the beginning as it is leaves the memory of now as it is. -/
theorem Moves.widen {base : Nat} {h h0 : Heap} {ρ ρ' : Rho} {w w' : World} (hi : Inv base h ρ w) (hsame : ∀ i, i < h0.length → h[i]? = h0[i]?) (m : Moves base h0 (ρ.take h0.length) w h0 ρ' w') : Moves base h ρ w h ρ w' := by
  have own0 : ∀ {k : Nat}, Owns h0 (ρ.take h0.length) k → Owns h ρ k := fun {k} ⟨i, b, l, h1, h2, h3, h4, h5⟩ => by
    have hl := born_lt (born_live h1)
    rw [List.getElem?_take_of_lt hl] at h3
    exact ⟨i, b, l, by rw [hsame i hl]; exact h1, h2, h3, h4, h5⟩
  refine
    { born := fun _ h => h
      ext := fun _ _ => rfl
      inv :=
        { len := hi.len
          base_le := m.inv.base_le
          blk := fun i b hb => ?_
          apart := hi.apart }
      os := m.os
      tape := m.tape
      output := m.output
      size := m.size
      keep := fun k hk hn => m.keep k hk (fun ho => hn (own0 ho))
      new := fun k h => .inl h
      grow := fun i b' h _ => ⟨b', h, rfl⟩
      len := Nat.le_refl _ }
  obtain ⟨l, hl, hw, hc⟩ := hi.blk i b hb
  rcases Nat.lt_or_ge i h0.length with hlt | hge
  · have hb0 : h0[i]? = some (Sl.live b) := by rw [← hsame i hlt]; exact hb
    obtain ⟨l', hl', hw', hc'⟩ := m.inv.blk i b hb0
    have e : l' = l := by
      have := m.ext i (born_live hb0)
      rw [hl', List.getElem?_take_of_lt hlt, hl] at this
      exact Option.some.inj this
    subst e
    have tr_ : ∀ v ∈ b.vals, tr1 ρ' v = tr1 ρ v := fun v hv => by
      have a1 := tr1_congr (h := h0) (ρ := ρ.take h0.length) (ρ' := ρ') m.ext v (hw' v hv)
      have a2 := tr1_congr (h := h0) (ρ := ρ) (ρ' := ρ.take h0.length) (fun i hi => List.getElem?_take_of_lt (born_lt hi)) v (hw' v hv)
      rw [a1, a2]
    refine ⟨l', hl, hw, ?_⟩
    rcases hc' with hc' | ⟨h1, h2, h3, cs, e1, fr, h4, h5, h6, h7⟩ | ⟨h1, h2, h3, h4⟩
    · exact .inl hc'
    · exact .inr (.inl ⟨h1, h2, h3, cs, e1, fr, h4, h5, h6, fun j v hj => by rw [← tr_ v (List.mem_of_getElem? hj)]; exact h7 j v hj⟩)
    · exact .inr (.inr ⟨h1, h2, h3, fun j v hj => by rw [← tr_ v (List.mem_of_getElem? hj)]; exact h4 j v hj⟩)
  · -- a block that the beginning did not have
    have away : ∀ {b' : Blk}, h[i]? = some (Sl.live b') → l.nil = false → (b'.own = true ∨ l.block < base) → ¬ Owns h0 (ρ.take h0.length) l.block := fun {b'} hb' hn ho ⟨j, bj, lj, h1, h2, h3, h4, h5⟩ => by
      have hjl := born_lt (born_live h1)
      rw [List.getElem?_take_of_lt hjl] at h3
      have hj' : h[j]? = some (Sl.live bj) := by rw [hsame j hjl]; exact h1
      rcases ho with ho | ho
      · exact hi.apart i j b' bj l lj (by omega) hb' hj' ho h2 hl h3 hn h4 h5.symm
      · have := (hi.lt hj' h3 h4 h2).2
        omega
    refine ⟨l, hl, hw, ?_⟩
    rcases hc with hc | ⟨h1, h2, h3, cs, e1, fr, h4, h5, h6, h7⟩ | ⟨h1, h2, h3, h4⟩
    · exact .inl hc
    · refine .inr (.inl ⟨h1, h2, h3, cs, e1, fr, ?_, h5, h6, h7⟩)
      rw [m.keep _ (Array.getElem?_eq_some_iff.1 h4).1 (away hb h1 (.inl h2))]
      exact h4
    · refine .inr (.inr ⟨h1, h2, h3, fun j v hj => ?_⟩)
      have hlt : l.block < w.heap.size := Nat.lt_of_lt_of_le h3 hi.base_le
      rw [World.cell?_of_block (w := w) (m.keep _ hlt (away hb h1 (.inr h3)))]
      exact h4 j v hj

/-! ### what is known of each operation -/
inductive Kind where
  | off
  | float
  | calm (b : Nat)
  | quiet
  | alloc (at_ : Nat) (b : Blk)
  | pin

def Kind.loose : Kind → Bool
  | .off => true
  | .float => true
  | .calm _ => true
  | _ => false

/-- All that a region's proof wants to know. -/
structure Plan (P : Program) (N : Nat) (ops : Array Oper) (tm0 : Tm) (h0 : Heap) where
  vs : Nat → Value
  kind : Nat → Kind
  mask : Nat → Nat
  tmi : Nat → Tm
  k : Nat
  hp : Nat → Heap
  nA : Nat
  k_le : k ≤ ops.size
  acyclic : ∀ (i : Nat) (o : Oper), ops[i]? = some o → ∀ e ∈ o.after.toList, Region.binds .any e = true → e.on < i
  masks : ∀ (i : Nat) (o : Oper), ops[i]? = some o → ∀ L : Nat → Prop, (∀ e ∈ o.after.toList, Region.binds .any e = true → L e.on) → (∀ j, L j → ∀ t, (mask j).testBit t = true → L t) → ∀ t, (mask i).testBit t = true → L t
  dst_ok : ∀ (i : Nat) (o : Oper), ops[i]? = some o → dstOk N o.dst = true
  dst_ne : ∀ (i j : Nat) (o o' : Oper) (d : Nat), i ≠ j → ops[i]? = some o → ops[j]? = some o' → o.dst = some d → o'.dst ≠ some d
  tmi_ok : ∀ (i : Nat) (o : Oper), ops[i]? = some o → ∀ (t : Nat) (v : Value), look (tmi i) t = some v → (∃ (j : Nat) (o' : Oper), (mask i).testBit j = true ∧ ops[j]? = some o' ∧ o'.dst = some t ∧ v = vs j) ∨ (look tm0 t = some v ∧ ∀ (j : Nat) (o' : Oper), ops[j]? = some o' → o'.dst ≠ some t)
  off_ok : ∀ (i : Nat) (o : Oper), ops[i]? = some o → kind i = .off → lwanted ops (tmi i) o = some false ∧ vs i = undefV
  on_ok : ∀ (i : Nat) (o : Oper), ops[i]? = some o → kind i ≠ .off → lwanted ops (tmi i) o = some true
  float_ok : ∀ (i : Nat) (o : Oper), ops[i]? = some o → kind i = .float → ∀ h, OpOK P N o (tmi i) h (vs i) h
  calm_ok : ∀ (i : Nat) (o : Oper) (b : Nat), ops[i]? = some o → kind i = .calm b → b < h0.length ∧ ∀ h : Heap, h[b]? = (hp (max i k))[b]? → OpOK P N o (tmi i) h (vs i) h
  calm_pin : ∀ (i j b : Nat), i < ops.size → j < ops.size → kind i = .calm b → kind j = .pin → (hp (j + 1))[b]? = (hp j)[b]? ∨ (i < j ∧ (mask j).testBit i = true) ∨ (j < i ∧ (mask i).testBit j = true)
  quiet_ok : ∀ (i : Nat) (o : Oper), ops[i]? = some o → kind i = .quiet → OpOK P N o (tmi i) h0 (vs i) h0 ∧ ∀ (t : Nat) (v : Value), look (tmi i) t = some v → wf h0 v = true
  alloc_ok : ∀ (i : Nat) (o : Oper) (a : Nat) (b : Blk), ops[i]? = some o → kind i = .alloc a b → ∀ H : Heap, H[a]? = some .unborn → OpOK P N o (tmi i) H (vs i) (H.set a (.live b))
  alloc_at : ∀ (i : Nat) (a : Nat) (b : Blk), i < ops.size → kind i = .alloc a b → h0.length ≤ a ∧ a < h0.length + nA
  alloc_ne : ∀ (i j a : Nat) (b b' : Blk), i < ops.size → j < ops.size → kind i = .alloc a b → kind j = .alloc a b' → i = j
  alloc_all : ∀ a, h0.length ≤ a → a < h0.length + nA → ∃ (i : Nat) (b : Blk), i < ops.size ∧ kind i = .alloc a b ∧ (hp k)[a]? = some (.live b)
  hp_old : ∀ i, i < h0.length → (hp k)[i]? = h0[i]?
  hp_len : (hp k).length = h0.length + nA
  pin_ge : ∀ i, i < ops.size → kind i = .pin → k ≤ i
  pin_ok : ∀ (i : Nat) (o : Oper), ops[i]? = some o → kind i = .pin → OpOK P N o (tmi i) (hp i) (vs i) (hp (i + 1))
  late : ∀ i, k ≤ i → i < ops.size → kind i ≠ .pin → (kind i).loose = true ∧ hp (i + 1) = hp i
  pin_mask : ∀ i j, i < ops.size → kind i = .pin → j < i → (kind j).loose = false → (mask i).testBit j = true

theorem Plan.flat {P : Program} {N : Nat} {ops : Array Oper} {tm0 : Tm} {h0 : Heap} (pl : Plan P N ops tm0 h0) (t : Nat) (ht : pl.k ≤ t) : ∀ (n : Nat), t + n ≤ ops.size → (∀ i, t ≤ i → i < t + n → pl.kind i ≠ .pin) → pl.hp (t + n) = pl.hp t := by
  intro n
  induction n with
  | zero => intros; rfl
  | succ n ih =>
    intro hs hn
    rw [← Nat.add_assoc, (pl.late (t + n) (by omega) (by omega) (hn _ (by omega) (by omega))).2]
    exact ih (by omega) fun i h1 h2 => hn i h1 (by omega)

theorem Plan.still {P : Program} {N : Nat} {ops : Array Oper} {tm0 : Tm} {h0 : Heap} (pl : Plan P N ops tm0 h0) (b t : Nat) (ht : pl.k ≤ t) : ∀ (n : Nat), t + n ≤ ops.size →
    (∀ i, t ≤ i → i < t + n → pl.kind i = .pin → (pl.hp (i + 1))[b]? = (pl.hp i)[b]?) → (pl.hp (t + n))[b]? = (pl.hp t)[b]? := by
  intro n
  induction n with
  | zero => intros; rfl
  | succ n ih =>
    intro hs hn
    rw [← Nat.add_assoc]
    have e : (pl.hp (t + n + 1))[b]? = (pl.hp (t + n))[b]? := by
      by_cases hk : pl.kind (t + n) = .pin
      · exact hn _ (by omega) (by omega) hk
      · rw [(pl.late (t + n) (by omega) (by omega) hk).2]
    rw [e]
    exact ih (by omega) fun i h1 h2 => hn i h1 (by omega)

section
variable {P : Program} {N : Nat} {ops : Array Oper} {tm0 : Tm} {h0 : Heap}

/-- The state when some operations are over. -/
structure J (pl : Plan P N ops tm0 h0) (base : Nat) (ds : List Deferred) (ρ0 : Rho) (w0 : World) (listed : Array Bool) (a : Act) (w : World) (ρ : Rho) (h : Heap) (p : Nat) : Prop where
  moves : Moves base h0 ρ0 w0 h ρ w
  size : a.tmps.size = N
  defers : a.defers = ds
  lsize : listed.size = ops.size
  closed : ∀ j, listed[j]? = some true → ∀ t, (pl.mask j).testBit t = true → listed[t]? = some true
  pins : ∀ i, i < ops.size → pl.kind i = .pin → (listed[i]? = some true ↔ i < p)
  p_ge : pl.k ≤ p
  p_le : p ≤ ops.size
  firm : pl.k < p → ∀ i, i < pl.k → (pl.kind i).loose = false → listed[i]? = some true
  heapA : p = pl.k → h.length = h0.length + pl.nA ∧ (∀ i, i < h0.length → h[i]? = h0[i]?) ∧
    ∀ i a b, i < ops.size → pl.kind i = .alloc a b → h[a]? = some (if listed[i]? = some true then .live b else .unborn)
  heapB : pl.k < p → h = pl.hp p
  old : ∀ (t : Nat) (v : Value), look tm0 t = some v → (∀ (j : Nat) (o' : Oper), ops[j]? = some o' → o'.dst ≠ some t) → a.tmps[t]? = some (tr ρ v) ∧ wf h v = true
  done : ∀ (j : Nat) (o : Oper) (d : Nat), listed[j]? = some true → ops[j]? = some o → o.dst = some d → a.tmps[d]? = some (tr ρ (pl.vs j)) ∧ wf h (pl.vs j) = true

variable {pl : Plan P N ops tm0 h0} {base : Nat} {ds : List Deferred} {ρ0 : Rho} {w0 : World}

theorem J.rel {listed : Array Bool} {a : Act} {w : World} {ρ : Rho} {h : Heap} {p : Nat} (j : J pl base ds ρ0 w0 listed a w ρ h p) {i : Nat} {o : Oper} (ho : ops[i]? = some o)
    (hm : ∀ t, (pl.mask i).testBit t = true → listed[t]? = some true) : Rel base N ds h ρ (pl.tmi i) a w where
  inv := j.moves.inv
  size := j.size
  defers := j.defers
  tmp := fun t v hv => by
    rcases pl.tmi_ok i o ho t v hv with ⟨q, o', h1, h2, h3, rfl⟩ | ⟨h1, h2⟩
    · exact j.done q o' t (hm q h1) h2 h3
    · exact j.old t v h1 h2

/-- One more is over; its value is there. -/
theorem J.step {listed : Array Bool} {a : Act} {w w' : World} {ρ ρ' : Rho} {h h' : Heap} {p p' : Nat} (j : J pl base ds ρ0 w0 listed a w ρ h p) {i : Nat} {o : Oper} (ho : ops[i]? = some o) (hun : listed[i]? = some false)
    (hm : ∀ t, (pl.mask i).testBit t = true → listed[t]? = some true) (m : Moves base h ρ w h' ρ' w') (hv : wf h' (pl.vs i) = true)
    (hpins : ∀ q, q < ops.size → pl.kind q = .pin → ((listed.setIfInBounds i true)[q]? = some true ↔ q < p')) (hp_ge : pl.k ≤ p') (hp_le : p' ≤ ops.size)
    (hfirm : pl.k < p' → ∀ q, q < pl.k → (pl.kind q).loose = false → (listed.setIfInBounds i true)[q]? = some true)
    (hA : p' = pl.k → h'.length = h0.length + pl.nA ∧ (∀ q, q < h0.length → h'[q]? = h0[q]?) ∧
      ∀ q a b, q < ops.size → pl.kind q = .alloc a b → h'[a]? = some (if (listed.setIfInBounds i true)[q]? = some true then .live b else .unborn))
    (hB : pl.k < p' → h' = pl.hp p') : J pl base ds ρ0 w0 (listed.setIfInBounds i true) (a.put o.dst (tr ρ' (pl.vs i))) w' ρ' h' p' := by
  have hi : i < ops.size := (Array.getElem?_eq_some_iff.1 ho).1
  have self : (listed.setIfInBounds i true)[i]? = some true := by
    rw [Array.getElem?_setIfInBounds_self, if_pos (by rw [j.lsize]; exact hi)]
  have other : ∀ {q : Nat}, q ≠ i → (listed.setIfInBounds i true)[q]? = listed[q]? := fun hq => Array.getElem?_setIfInBounds_ne (Ne.symm hq)
  have grow : ∀ {q : Nat}, listed[q]? = some true → (listed.setIfInBounds i true)[q]? = some true := fun {q} hq => by
    by_cases e : q = i
    · subst e; exact self
    · rw [other e]; exact hq
  have kept : ∀ {t : Nat} {v : Value}, o.dst ≠ some t → (a.tmps[t]? = some (tr ρ v) ∧ wf h v = true) → ((a.put o.dst (tr ρ' (pl.vs i))).tmps[t]? = some (tr ρ' v) ∧ wf h' v = true) := fun {t v} hne ⟨h1, h2⟩ => by
    refine ⟨?_, wf_mono m.born v h2⟩
    have h3 : a.tmps[t]? = some (tr ρ' v) := by rw [h1, tr_congr m.ext v h2]
    cases hd : o.dst with
    | none => exact h3
    | some d =>
      rw [hd] at hne
      have : d ≠ t := fun e => hne (by rw [e])
      simp only [Act.put]
      rw [Array.getElem?_setIfInBounds_ne this]
      exact h3
  exact
    { moves := j.moves.trans m
      size := by cases o.dst <;> simp [Act.put, j.size]
      defers := by cases o.dst <;> exact j.defers
      lsize := by rw [Array.size_setIfInBounds]; exact j.lsize
      closed := fun q hq t ht => by
        by_cases e : q = i
        · subst e; exact grow (hm t ht)
        · rw [other e] at hq; exact grow (j.closed q hq t ht)
      pins := hpins
      p_ge := hp_ge
      p_le := hp_le
      firm := hfirm
      heapA := hA
      heapB := hB
      old := fun t v h1 h2 => kept (h2 i o ho) (j.old t v h1 h2)
      done := fun q o' d hq ho' hd => by
        by_cases e : q = i
        · subst e
          rw [ho] at ho'
          cases ho'
          refine ⟨?_, hv⟩
          have hdn : d < N := by have := pl.dst_ok q o ho; rw [hd] at this; simpa [dstOk, Nat.blt_eq] using this
          rw [hd]
          simp only [Act.put]
          rw [Array.getElem?_setIfInBounds_self, if_pos (by rw [j.size]; exact hdn)]
        · rw [other e] at hq
          exact kept (pl.dst_ne q i o' o d e ho' ho hd) (j.done q o' d hq ho' hd) }

theorem count_set (l : Array Bool) (i : Nat) (hi : l[i]? = some false) : (l.setIfInBounds i true).toList.count false + 1 = l.toList.count false := by
  obtain ⟨hlt, hv⟩ := Array.getElem?_eq_some_iff.1 hi
  rw [Array.toList_setIfInBounds]
  have hlt' : i < l.toList.length := by simpa using hlt
  have hv' : l.toList[i] = false := by simpa using hv
  have hpos : 0 < l.toList.count false := List.count_pos_iff.2 (by rw [← hv']; exact List.getElem_mem hlt')
  rw [List.count_set hlt', hv']
  have e1 : ((false == false) = true) := rfl
  have e2 : ((true == false) = true) = False := by simp
  rw [if_pos e1, if_neg (by simp)]
  omega

set_option maxHeartbeats 1000000 in
theorem J.any {Q : Exit → Act → World → Prop} (hw0 : WfHeap h0) (hQ : ∀ a w ρ p, J pl base ds ρ0 w0 (Array.replicate ops.size true) a w ρ (pl.hp ops.size) p → Q .normal a w) :
    ∀ (fuel : Nat) (listed : Array Bool) (a : Act) (w : World) (ρ : Rho) (h : Heap) (p : Nat), listed.toList.count false = fuel → J pl base ds ρ0 w0 listed a w ρ h p → wpAny P .any ops Q fuel listed a w := by
  -- all over
  have fin : ∀ (listed : Array Bool) (a : Act) (w : World) (ρ : Rho) (h : Heap) (p : Nat), J pl base ds ρ0 w0 listed a w ρ h p → (∀ i, i < ops.size → listed[i]? = some true) → Q .normal a w := fun listed a w ρ h p j hall => by
    have e1 : listed = Array.replicate ops.size true := by
      apply Array.ext_getElem?
      intro i
      rcases Nat.lt_or_ge i ops.size with hi | hi
      · rw [hall i hi]; simp [hi]
      · rw [Array.getElem?_eq_none (by rw [j.lsize]; exact hi), Array.getElem?_eq_none (by simpa using hi)]
    have e2 : pl.hp ops.size = pl.hp p := by
      have := pl.flat p j.p_ge (ops.size - p) (by have := j.p_le; omega) fun i h1 h2 hk => by
        have := (j.pins i (by omega) hk).1 (hall i (by omega))
        omega
      rwa [show p + (ops.size - p) = ops.size by have := j.p_le; omega] at this
    have e3 : h = pl.hp ops.size := by
      rw [e2]
      rcases Nat.eq_or_lt_of_le j.p_ge with h3 | h3
      · obtain ⟨a1, a2, a3⟩ := j.heapA h3.symm
        rw [← h3]
        apply List.ext_getElem?
        intro i
        rcases Nat.lt_or_ge i h0.length with hi | hi
        · rw [a2 i hi, pl.hp_old i hi]
        · rcases Nat.lt_or_ge i (h0.length + pl.nA) with hj | hj
          · obtain ⟨q, b, q1, q2, q3⟩ := pl.alloc_all i hi hj
            rw [a3 q i b q1 q2, q3, if_pos (hall q q1)]
          · rw [List.getElem?_eq_none (by omega), List.getElem?_eq_none (by rw [pl.hp_len]; exact hj)]
      · exact j.heapB h3
    subst e1
    rw [e3] at j
    exact hQ a w ρ p j
  -- what is not ready waits for one that is
  have ready_all : ∀ (listed : Array Bool) (a : Act) (w : World) (ρ : Rho) (h : Heap) (p : Nat), J pl base ds ρ0 w0 listed a w ρ h p → Region.ready .any ops listed = [] → ∀ i, i < ops.size → listed[i]? = some true := fun listed a w ρ h p j hr => by
    intro i
    induction i using Nat.strongRecOn with
    | _ i ih =>
      intro hi
      cases hl : listed[i]? with
      | none => rw [Array.getElem?_eq_none_iff] at hl; rw [j.lsize] at hl; omega
      | some b =>
        cases b with
        | true => rfl
        | false =>
          exfalso
          have : i ∈ Region.ready .any ops listed := by
            unfold Region.ready
            rw [List.mem_filter]
            refine ⟨List.mem_range.2 hi, ?_⟩
            have ho : ops[i]? = some ops[i] := Array.getElem?_eq_getElem hi
            simp only [ho, Option.map_some, Option.getD_some, Bool.and_eq_true, Bool.not_eq_true']
            refine ⟨by simp [hl], ?_⟩
            rw [Array.all_eq_true']
            intro e he
            cases hb : Region.binds .any e with
            | false => rfl
            | true =>
              have hlt := pl.acyclic i _ ho e (by simpa using he) hb
              have := ih e.on hlt (by omega)
              simp [this]
          rw [hr] at this
          cases this
  intro fuel
  induction fuel with
  | zero =>
    intro listed a w ρ h p hc j
    have hall : ∀ i, i < ops.size → listed[i]? = some true := fun i hi => by
      cases hl : listed[i]? with
      | none => rw [Array.getElem?_eq_none_iff] at hl; rw [j.lsize] at hl; omega
      | some b =>
        cases b with
        | true => rfl
        | false =>
          exfalso
          have hm : false ∈ listed.toList := by
            obtain ⟨h1, h2⟩ := Array.getElem?_eq_some_iff.1 hl
            rw [← h2]
            simp
          have := List.count_pos_iff.2 hm
          omega
    refine ⟨?_, fin _ _ _ _ _ _ j hall⟩
    unfold Region.ready
    rw [List.filter_eq_nil_iff]
    intro i hi
    simp [hall i (List.mem_range.1 hi)]
  | succ fuel ih =>
    intro listed a w ρ h p hc j
    refine ⟨fun hr => fin _ _ _ _ _ _ j (ready_all _ _ _ _ _ _ j hr), fun i hir => ?_⟩
    -- the operation that comes up
    unfold Region.ready at hir
    rw [List.mem_filter] at hir
    obtain ⟨hir1, hir2⟩ := hir
    have hi : i < ops.size := List.mem_range.1 hir1
    have ho : ops[i]? = some ops[i] := Array.getElem?_eq_getElem hi
    generalize ops[i] = o at ho
    simp only [ho, Option.map_some, Option.getD_some, Bool.and_eq_true, Bool.not_eq_true'] at hir2
    obtain ⟨hir2, hir3⟩ := hir2
    have hun : listed[i]? = some false := by
      cases hl : listed[i]? with
      | none => rw [Array.getElem?_eq_none_iff] at hl; rw [j.lsize] at hl; omega
      | some b => simp [hl] at hir2; rw [hir2]
    have hdir : ∀ e ∈ o.after.toList, Region.binds .any e = true → listed[e.on]? = some true := fun e he hb => by
      rw [Array.all_eq_true'] at hir3
      have := hir3 e (by simpa using he)
      simp only [hb, Bool.not_true, Bool.false_or] at this
      cases hl : listed[e.on]? with
      | none => simp [hl] at this
      | some b => simp [hl] at this; rw [this]
    have hm : ∀ t, (pl.mask i).testBit t = true → listed[t]? = some true := pl.masks i o ho (fun q => listed[q]? = some true) hdir (fun q hq t ht => j.closed q hq t ht)
    have r := j.rel ho hm
    have next : ∀ (a' : Act) (w' : World) (ρ' : Rho) (h' : Heap) (p' : Nat), J pl base ds ρ0 w0 (listed.setIfInBounds i true) a' w' ρ' h' p' → wpAny P .any ops Q fuel (listed.setIfInBounds i true) a' w' := fun a' w' ρ' h' p' j' =>
      ih _ a' w' ρ' h' p' (by have := count_set listed i hun; omega) j'
    have self : (listed.setIfInBounds i true)[i]? = some true := by
      rw [Array.getElem?_setIfInBounds_self, if_pos (by rw [j.lsize]; exact hi)]
    have other : ∀ {q : Nat}, q ≠ i → (listed.setIfInBounds i true)[q]? = listed[q]? := fun hq => Array.getElem?_setIfInBounds_ne (Ne.symm hq)
    have grow : ∀ {q : Nat}, listed[q]? = some true → (listed.setIfInBounds i true)[q]? = some true := fun {q} hq => by
      by_cases e : q = i
      · subst e; exact self
      · rw [other e]; exact hq
    -- what does not pin
    have nopin : pl.kind i ≠ .pin → (pl.kind i).loose = false → i < pl.k := fun hk hl => by
      rcases Nat.lt_or_ge i pl.k with h1 | h1
      · exact h1
      · rw [(pl.late i h1 hi hk).1] at hl
        cases hl
    have pinsSame : pl.kind i ≠ .pin → ∀ q, q < ops.size → pl.kind q = .pin → ((listed.setIfInBounds i true)[q]? = some true ↔ q < p) := fun hn q h1 h2 => by
      rw [other (fun e => hn (by rw [← e]; exact h2))]
      exact j.pins q h1 h2
    have firmSame : pl.k < p → ∀ q, q < pl.k → (pl.kind q).loose = false → (listed.setIfInBounds i true)[q]? = some true := fun h1 q h2 h3 => grow (j.firm h1 q h2 h3)
    have p0 : (pl.kind i).loose = false → i < pl.k → p = pl.k := fun h1 h2 => by
      rcases Nat.eq_or_lt_of_le j.p_ge with h3 | h3
      · exact h3.symm
      · have := j.firm h3 i h2 h1
        rw [hun] at this
        cases this
    have heapSame : (∀ a b, pl.kind i ≠ .alloc a b) → p = pl.k → h.length = h0.length + pl.nA ∧ (∀ q, q < h0.length → h[q]? = h0[q]?) ∧
        ∀ q a b, q < ops.size → pl.kind q = .alloc a b → h[a]? = some (if (listed.setIfInBounds i true)[q]? = some true then .live b else .unborn) := fun hna hp => by
      obtain ⟨a1, a2, a3⟩ := j.heapA hp
      refine ⟨a1, a2, fun q a b hq hk => ?_⟩
      have : q ≠ i := fun e => hna a b (by rw [← e]; exact hk)
      rw [other this]
      exact a3 q a b hq hk
    unfold wpOp
    simp only [ho]
    cases hk : pl.kind i with
    | off =>
      obtain ⟨o1, o2⟩ := pl.off_ok i o ho hk
      rw [if_neg (by rw [lwanted_ok r o1]; simp)]
      have := j.step ho hun hm (Moves.refl j.moves.inv) (by rw [o2]; rfl) (pinsSame (by rw [hk]; simp)) j.p_ge j.p_le firmSame (heapSame (by rw [hk]; simp)) j.heapB
      rw [o2] at this
      exact next _ _ _ _ _ this
    | float =>
      rw [if_pos (lwanted_ok r (pl.on_ok i o ho (by rw [hk]; simp)))]
      exact .inl (pl.float_ok i o ho hk h base ds ρ a w _ Q r fun ρ' w' m hv =>
        next _ _ _ _ _ (j.step ho hun hm m hv (pinsSame (by rw [hk]; simp)) j.p_ge j.p_le firmSame (heapSame (by rw [hk]; simp)) j.heapB))
    | calm b =>
      rw [if_pos (lwanted_ok r (pl.on_ok i o ho (by rw [hk]; simp)))]
      obtain ⟨hb, hop⟩ := pl.calm_ok i o b ho hk
      have cur : h[b]? = (pl.hp p)[b]? := by
        rcases Nat.eq_or_lt_of_le j.p_ge with h3 | h3
        · obtain ⟨a1, a2, a3⟩ := j.heapA h3.symm
          rw [← h3, a2 b hb, pl.hp_old b hb]
        · rw [j.heapB h3]
      have kmax : pl.k ≤ max i pl.k := Nat.le_max_right _ _
      have imax : i ≤ max i pl.k := Nat.le_max_left _ _
      have maxs : max i pl.k ≤ ops.size := Nat.max_le.2 ⟨by omega, pl.k_le⟩
      have same : (pl.hp p)[b]? = (pl.hp (max i pl.k))[b]? := by
        rcases Nat.le_total p (max i pl.k) with hle | hle
        · have := pl.still b p j.p_ge (max i pl.k - p) (by omega) fun q h1 h2 hq => by
            have hqi : q < i := by
              have := j.p_ge
              rcases Nat.le_total i pl.k with h5 | h5
              · rw [Nat.max_eq_right h5] at h2; omega
              · rw [Nat.max_eq_left h5] at h2; omega
            rcases pl.calm_pin i q b hi (by omega) hk hq with c | ⟨c, _⟩ | ⟨_, c⟩
            · exact c
            · omega
            · have := (j.pins q (by omega) hq).1 (hm q c)
              omega
          rw [show p + (max i pl.k - p) = max i pl.k by omega] at this
          exact this.symm
        · have := pl.still b (max i pl.k) kmax (p - max i pl.k) (by have := j.p_le; omega) fun q h1 h2 hq => by
            have hqs : q < ops.size := by have := j.p_le; omega
            rcases pl.calm_pin i q b hi hqs hk hq with c | ⟨_, c⟩ | ⟨c, _⟩
            · exact c
            · have hl := (j.pins q hqs hq).2 (by omega)
              have := j.closed q hl i c
              rw [hun] at this
              cases this
            · omega
          rw [show max i pl.k + (p - max i pl.k) = p by omega] at this
          exact this
      exact .inl (hop h (by rw [cur, same]) base ds ρ a w _ Q r fun ρ' w' m hv =>
        next _ _ _ _ _ (j.step ho hun hm m hv (pinsSame (by rw [hk]; simp)) j.p_ge j.p_le firmSame (heapSame (by rw [hk]; simp)) j.heapB))
    | quiet =>
      have hlt := nopin (by rw [hk]; simp) (by rw [hk]; rfl)
      have hp := p0 (by rw [hk]; rfl) hlt
      obtain ⟨a1, a2, a3⟩ := j.heapA hp
      rw [if_pos (lwanted_ok r (pl.on_ok i o ho (by rw [hk]; simp)))]
      obtain ⟨q1, q2⟩ := pl.quiet_ok i o ho hk
      have i0 := j.moves.inv.take (h0 := h0) (by omega) a2 hw0
      have r0 : Rel base N ds h0 (ρ.take h0.length) (pl.tmi i) a w :=
        { inv := i0
          size := r.size
          defers := r.defers
          tmp := fun t v hv => by
            have hwf := q2 t v hv
            exact ⟨by rw [(r.tmp t v hv).1, tr_congr (fun q hq => List.getElem?_take_of_lt (born_lt hq)) v hwf], hwf⟩ }
      refine .inl (q1 base ds (ρ.take h0.length) a w _ Q r0 fun ρ' w' m hv => ?_)
      have hsub : ∀ q, isBorn h0 q = true → isBorn h q = true := fun q hq => by
        unfold isBorn at hq ⊢
        rw [a2 q (born_lt (h := h0) hq)]
        exact hq
      have e : tr ρ' (pl.vs i) = tr ρ (pl.vs i) := by
        rw [tr_congr m.ext _ hv, tr_congr (fun q hq => List.getElem?_take_of_lt (born_lt hq)) _ hv]
      rw [e]
      exact next _ _ _ _ _ (j.step ho hun hm (Moves.widen j.moves.inv a2 m) (wf_mono hsub _ hv) (pinsSame (by rw [hk]; simp)) j.p_ge j.p_le firmSame (heapSame (by rw [hk]; simp)) j.heapB)
    | alloc at_ b =>
      have hlt := nopin (by rw [hk]; simp) (by rw [hk]; rfl)
      have hp := p0 (by rw [hk]; rfl) hlt
      obtain ⟨a1, a2, a3⟩ := j.heapA hp
      rw [if_pos (lwanted_ok r (pl.on_ok i o ho (by rw [hk]; simp)))]
      have hu : h[at_]? = some .unborn := by rw [a3 i at_ b hi hk, hun]; simp
      obtain ⟨l1, l2⟩ := pl.alloc_at i at_ b hi hk
      refine .inl (pl.alloc_ok i o at_ b ho hk h hu base ds ρ a w _ Q r fun ρ' w' m hv => ?_)
      refine next _ _ _ _ _ (j.step ho hun hm m hv (pinsSame (by rw [hk]; simp)) j.p_ge j.p_le firmSame (fun _ => ⟨by rw [List.length_set]; exact a1, fun q hq => ?_, fun q a' b' hq hkq => ?_⟩) (fun h => by omega))
      · rw [List.getElem?_set_ne (by omega)]
        exact a2 q hq
      · by_cases e : q = i
        · subst e
          rw [hk] at hkq
          cases hkq
          rw [List.getElem?_set_self (by omega), self]
          simp
        · have hne : a' ≠ at_ := fun e2 => e (pl.alloc_ne q i at_ b' b hq hi (by rw [hkq, e2]) hk)
          rw [List.getElem?_set_ne (Ne.symm hne), other e]
          exact a3 q a' b' hq hkq
    | pin =>
      have hge := pl.pin_ge i hi hk
      rw [if_pos (lwanted_ok r (pl.on_ok i o ho (by rw [hk]; simp)))]
      have before : ∀ q, q < i → (pl.kind q).loose = false → listed[q]? = some true := fun q hq hl => hm q (pl.pin_mask i q hi hk hq hl)
      have hle : p ≤ i := by
        rcases Nat.lt_or_ge i p with h | h
        · have := (j.pins i hi hk).2 h
          rw [hun] at this
          cases this
        · exact h
      have gap : ∀ q, p ≤ q → q < i → pl.kind q ≠ .pin := fun q h1 h2 hq => by
        have := (j.pins q (by omega) hq).1 (before q h2 (by rw [hq]; rfl))
        omega
      have flat : pl.hp i = pl.hp p := by
        have := pl.flat p j.p_ge (i - p) (by omega) fun q h1 h2 => gap q h1 (by omega)
        rwa [show p + (i - p) = i by omega] at this
      have hh : h = pl.hp i := by
        rw [flat]
        rcases Nat.eq_or_lt_of_le j.p_ge with h3 | h3
        · obtain ⟨a1, a2, a3⟩ := j.heapA h3.symm
          rw [← h3]
          apply List.ext_getElem?
          intro q
          rcases Nat.lt_or_ge q h0.length with hq | hq
          · rw [a2 q hq, pl.hp_old q hq]
          · rcases Nat.lt_or_ge q (h0.length + pl.nA) with hj | hj
            · obtain ⟨t, b, q1, q2, q3⟩ := pl.alloc_all q hq hj
              have hlt : t < i := by
                rcases Nat.lt_or_ge t pl.k with h | h
                · omega
                · have := (pl.late t h q1 (by rw [q2]; simp)).1
                  rw [q2] at this
                  cases this
              rw [a3 t q b q1 q2, q3, if_pos (before t hlt (by rw [q2]; rfl))]
            · rw [List.getElem?_eq_none (by omega), List.getElem?_eq_none (by rw [pl.hp_len]; exact hj)]
        · exact j.heapB h3
      have hpo := pl.pin_ok i o ho hk
      rw [hh] at r
      refine .inl (hpo base ds ρ a w _ Q r fun ρ' w' m hv => ?_)
      rw [← hh] at m
      refine next _ _ _ _ (i + 1) (j.step ho hun hm m hv (fun q h1 h2 => ?_) (by omega) (by omega) (fun _ q hq hl => grow (before q (by omega) hl)) (fun h => by omega) (fun _ => rfl))
      by_cases e : q = i
      · subst e
        rw [self]
        simp
      · rw [other e, j.pins q h1 h2]
        constructor
        · intro h; omega
        · intro h
          rcases Nat.lt_or_ge q p with h3 | h3
          · exact h3
          · exact absurd h2 (gap q h3 (by omega))

end
end Go.LE
