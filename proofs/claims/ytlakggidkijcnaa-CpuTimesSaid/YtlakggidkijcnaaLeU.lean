import Derived.Test.YtlakggidkijcnaaLeQ
set_option linter.all false
/- What is kept of a memory, in another order: at a function's end, and from round to round. -/
namespace Go.LE
open Go

/-- The small memory hs lies in H at σ; what is dead there is dead here. -/
def PartD (hs : Heap) (σ : List Nat) (H : Heap) : Prop :=
  σ.Nodup ∧ hs.length = σ.length ∧ ∀ (i : Nat) (s : Sl), hs[i]? = some s → ∃ j, σ[i]? = some j ∧ ((s = .dead ∧ H[j]? = some .dead) ∨
    ∃ (bs b : Blk), s = .live bs ∧ H[j]? = some (Sl.live b) ∧ bs.own = b.own ∧ bs.row = b.row ∧ b.vals = bs.vals.map (rn1 σ) ∧ ∀ v ∈ bs.vals, wf1 hs v = true)

section
variable {hs H : Heap} {σ : List Nat} {base : Nat} {ρ : Rho} {w : World}

theorem born_dead {h : Heap} {i : Nat} (hi : h[i]? = some Sl.dead) : isBorn h i = true := by simp [isBorn, hi]

theorem PartD.ties (p : PartD hs σ H) (hi : Inv base H ρ w) : Ties hs (pick ρ σ) σ H ρ := by
  intro i hb
  have hlt := born_lt hb
  obtain ⟨j, e2, e3⟩ := p.2.2 i hs[i] (List.getElem?_eq_getElem hlt)
  have hborn : isBorn H j = true := by
    rcases e3 with ⟨_, e3⟩ | ⟨bs, b, _, e3, _⟩
    · exact born_dead e3
    · exact born_live e3
  obtain ⟨l, hl⟩ := hi.loc hborn
  exact ⟨j, l, e2, pick_get e2 hl, hl, hborn⟩

theorem PartD.get (p : PartD hs σ H) {i : Nat} {bs : Blk} (hi : hs[i]? = some (Sl.live bs)) : ∃ (b : Blk) (j : Nat), σ[i]? = some j ∧ H[j]? = some (Sl.live b) ∧ bs.own = b.own ∧ bs.row = b.row ∧
    b.vals = bs.vals.map (rn1 σ) ∧ ∀ v ∈ bs.vals, wf1 hs v = true := by
  obtain ⟨j, e1, e2⟩ := p.2.2 i _ hi
  rcases e2 with ⟨e2, _⟩ | ⟨bs', b, e2, e3⟩
  · cases e2
  · cases e2
    exact ⟨b, j, e1, e3⟩

theorem PartD.inv (p : PartD hs σ H) (hi : Inv base H ρ w) : Inv base hs (pick ρ σ) w where
  len := by simp [pick, p.2.1]
  base_le := hi.base_le
  blk := fun i bs hb => by
    obtain ⟨b, j, e1, e2, e3, e4, e5, e6⟩ := p.get hb
    obtain ⟨l, hl, hw, hc⟩ := hi.blk j b e2
    have cell : ∀ (k : Nat) (v : Value), bs.vals[k]? = some v → b.vals[k]? = some (rn1 σ v) ∧ tr1 ρ (rn1 σ v) = tr1 (pick ρ σ) v := fun k v hk =>
      ⟨by rw [e5, List.getElem?_map, hk]; rfl, (tie1 (p.ties hi) v (e6 v (List.mem_of_getElem? hk))).1⟩
    refine ⟨l, pick_get e1 hl, e6, ?_⟩
    rcases hc with ⟨h1, h2, h3⟩ | ⟨h1, h2, h3, cs, e, fr, h4, h5, h6, h7⟩ | ⟨h1, h2, h3, h4⟩
    · refine .inl ⟨h1, ?_, by rw [e3]; exact h3⟩
      rw [h2] at e5
      exact List.map_eq_nil_iff.1 e5.symm
    · exact .inr (.inl ⟨h1, by rw [e3]; exact h2, h3, cs, e, fr, h4, h5, by rw [e4]; exact h6, fun k v hk => by rw [h7 k _ (cell k v hk).1, (cell k v hk).2]⟩)
    · exact .inr (.inr ⟨h1, by rw [e3]; exact h2, h3, fun k v hk => by rw [h4 k _ (cell k v hk).1, (cell k v hk).2]⟩)
  apart := fun i j bi bj li lj hij hi' hj' oi oj ri rj ni nj => by
    obtain ⟨b1, k1, a1, a2, a3, _⟩ := p.get hi'
    obtain ⟨b2, k2, c1, c2, c3, _⟩ := p.get hj'
    obtain ⟨l1, hl1⟩ := hi.loc (born_live a2)
    obtain ⟨l2, hl2⟩ := hi.loc (born_live c2)
    rw [pick_get a1 hl1] at ri
    rw [pick_get c1 hl2] at rj
    cases ri
    cases rj
    exact hi.apart k1 k2 b1 b2 li lj (fun e => hij (nodup_inj p.1 a1 (by rw [c1, e]))) a2 c2 (by rw [← a3]; exact oi) (by rw [← c3]; exact oj) hl1 hl2 ni nj

theorem PartD.born (p : PartD hs σ H) {i : Nat} (hi : i < hs.length) : isBorn hs i = true := by
  obtain ⟨j, _, e⟩ := p.2.2 i hs[i] (List.getElem?_eq_getElem hi)
  rcases e with ⟨e, _⟩ | ⟨bs, b, e, _⟩
  · exact born_dead (by rw [List.getElem?_eq_getElem hi, e])
  · exact born_live (by rw [List.getElem?_eq_getElem hi, e])

/-- A part is left, in its own order; what was there at the beginning has its places. -/
theorem Moves.out {h : Heap} {ρ1 : Rho} {w1 : World} {h1 : Heap} (m : Moves base h ρ w h1 ρ1 w1) (p : PartD hs σ h1) (pre : ∀ i, i < h.length → σ[i]? = some i) : Moves base h ρ w hs (pick ρ1 σ) w1 where
  born := fun i hi => p.born (by
    have := (List.getElem?_eq_some_iff.1 (pre i (born_lt hi))).1
    rw [p.2.1]; exact this)
  ext := fun i hi => by
    obtain ⟨l, hl⟩ := m.inv.loc (m.born i hi)
    rw [pick_get (pre i (born_lt hi)) hl, ← hl, m.ext i hi]
  inv := p.inv m.inv
  os := m.os
  tape := m.tape
  output := m.output
  size := m.size
  keep := m.keep
  new := fun k ⟨i, b, l, h1, h2, h3, h4, h5⟩ => by
    obtain ⟨b1, j, a1, a2, a3, _⟩ := p.get h1
    obtain ⟨l1, hl1⟩ := m.inv.loc (born_live a2)
    rw [pick_get a1 hl1] at h3
    cases h3
    exact m.new k ⟨j, b1, l, a2, by rw [← a3]; exact h2, hl1, h4, h5⟩
  grow := fun i b' hi hb => by
    obtain ⟨b1, j, a1, a2, a3, _⟩ := p.get hi
    rw [pre i (born_lt hb)] at a1
    cases a1
    obtain ⟨b, c1, c2⟩ := m.grow i b1 a2 hb
    exact ⟨b, c1, by rw [c2, a3]⟩
  len := by
    rw [p.2.1]
    rcases Nat.lt_or_ge σ.length h.length with hl | hl
    · have := (List.getElem?_eq_some_iff.1 (pre σ.length hl)).1
      omega
    · exact hl
end

/-! ### computed -/
def smallD (H : Heap) (σ : List Nat) : List (Nat × Bool) → Option (Heap × List Prop)
  | [] => some ([], [])
  | (j, raw) :: l =>
    match H[j]? with
    | some (.live b) =>
      match smallD H σ l with
      | some (hs, obs) =>
        bif raw then some (.live b :: hs, NoAddr b.vals :: obs)
        else match mapO (inv1 σ) b.vals with
          | some vals => some (.live ⟨vals, b.own, b.row⟩ :: hs, obs)
          | none => none
      | none => none
    | some .dead =>
      match smallD H σ l with
      | some (hs, obs) => some (.dead :: hs, obs)
      | none => none
    | _ => none

theorem smallD_length {H : Heap} {σ : List Nat} : ∀ {l : List (Nat × Bool)} {hs : Heap} {obs : List Prop}, smallD H σ l = some (hs, obs) → hs.length = l.length
  | [], hs, obs, h => by cases h; rfl
  | (j, raw) :: l, hs, obs, h => by
    unfold smallD at h
    cases h1 : H[j]? with
    | none => rw [h1] at h; cases h
    | some s =>
      rw [h1] at h
      cases s with
      | unborn => cases h
      | dead =>
        simp only at h
        cases h2 : smallD H σ l with
        | none => rw [h2] at h; cases h
        | some q => obtain ⟨hs2, obs2⟩ := q; rw [h2] at h; cases h; simp [smallD_length h2]
      | live b =>
        simp only at h
        cases h2 : smallD H σ l with
        | none => rw [h2] at h; cases h
        | some q =>
          obtain ⟨hs2, obs2⟩ := q
          rw [h2] at h
          have ih := smallD_length h2
          cases raw with
          | true => cases h; simp [ih]
          | false =>
            simp only [cond_false] at h
            cases h3 : mapO (inv1 σ) b.vals with
            | none => rw [h3] at h; cases h
            | some vals => rw [h3] at h; cases h; simp [ih]

theorem smallD_get {H : Heap} {σ : List Nat} : ∀ {l : List (Nat × Bool)} {hs : Heap} {obs : List Prop}, smallD H σ l = some (hs, obs) → All obs → ∀ (i : Nat) (s : Sl), hs[i]? = some s →
    ∃ j, (l.map (·.1))[i]? = some j ∧ ((s = .dead ∧ H[j]? = some .dead) ∨
      ∃ (bs b : Blk), s = .live bs ∧ H[j]? = some (Sl.live b) ∧ bs.own = b.own ∧ bs.row = b.row ∧ ((bs.vals = b.vals ∧ NoAddr b.vals) ∨ mapO (inv1 σ) b.vals = some bs.vals))
  | [], hs, obs, h, _, i, s, hi => by cases h; simp at hi
  | (j, raw) :: l, hs, obs, h, ho, i, s, hi => by
    unfold smallD at h
    cases h1 : H[j]? with
    | none => rw [h1] at h; cases h
    | some sl =>
      rw [h1] at h
      cases sl with
      | unborn => cases h
      | dead =>
        simp only at h
        cases h2 : smallD H σ l with
        | none => rw [h2] at h; cases h
        | some q =>
          obtain ⟨hs2, obs2⟩ := q
          rw [h2] at h
          cases h
          cases i with
          | zero => simp at hi; exact ⟨j, by simp, .inl ⟨hi.symm, h1⟩⟩
          | succ i => exact smallD_get h2 ho i s (by simpa using hi)
      | live b =>
        simp only at h
        cases h2 : smallD H σ l with
        | none => rw [h2] at h; cases h
        | some q =>
          obtain ⟨hs2, obs2⟩ := q
          rw [h2] at h
          cases raw with
          | true =>
            cases h
            cases i with
            | zero => simp at hi; exact ⟨j, by simp, .inr ⟨b, b, hi.symm, h1, rfl, rfl, .inl ⟨rfl, ho.1⟩⟩⟩
            | succ i => exact smallD_get h2 ho.2 i s (by simpa using hi)
          | false =>
            simp only [cond_false] at h
            cases h3 : mapO (inv1 σ) b.vals with
            | none => rw [h3] at h; cases h
            | some vals =>
              rw [h3] at h
              cases h
              cases i with
              | zero => simp at hi; exact ⟨j, by simp, .inr ⟨_, b, hi.symm, h1, rfl, rfl, .inr h3⟩⟩
              | succ i => exact smallD_get h2 ho i s (by simpa using hi)

theorem PartD.of {H : Heap} {l : List (Nat × Bool)} {hs : Heap} {obs : List Prop} (hn : nodupB (l.map (·.1)) = true) (h : smallD H (l.map (·.1)) l = some (hs, obs)) (ho : All obs) (hw : WfHeap H) :
    PartD hs (l.map (·.1)) H ∧ ∀ i, i < (l.map (·.1)).length → isBorn hs i = true := by
  have hlen := smallD_length h
  have hget := smallD_get h ho
  have hborn : ∀ i, i < (l.map (·.1)).length → isBorn hs i = true := fun i hi => by
    have hi' : i < hs.length := by rw [hlen]; simpa using hi
    obtain ⟨j, _, e⟩ := hget i hs[i] (List.getElem?_eq_getElem hi')
    rcases e with ⟨e1, _⟩ | ⟨bs, b, e1, _⟩
    · exact born_dead (by rw [List.getElem?_eq_getElem hi', e1])
    · exact born_live (by rw [List.getElem?_eq_getElem hi', e1])
  refine ⟨⟨nodupB_ok hn, by rw [hlen]; simp, fun i s hi => ?_⟩, hborn⟩
  obtain ⟨j, e2, e⟩ := hget i s hi
  refine ⟨j, e2, ?_⟩
  rcases e with e | ⟨bs, b, e1, e3, e4, e5, e6⟩
  · exact .inl e
  · refine .inr ⟨bs, b, e1, e3, e4, e5, ?_⟩
    rcases e6 with ⟨e6, e7⟩ | e6
    · rw [e6]
      exact ⟨e7.map.symm, fun v hv => wf1_mono (fun i hi => by rw [born_nil] at hi; cases hi) v (e7 v hv)⟩
    · obtain ⟨a1, a2⟩ := mapO_ok (fun v u => inv1_ok (H := H) hborn) e6 (List.all_eq_true.2 (hw j b e3))
      exact ⟨a1.symm, fun v hv => List.all_eq_true.1 a2 v hv⟩

/-- The first n places are their own. -/
def fixed (n : Nat) (l : List Nat) : Bool := (List.range n).all fun i => match l[i]? with | some j => Nat.beq i j | none => false

theorem fixed_ok {n : Nat} {l : List Nat} (h : fixed n l = true) : ∀ i, i < n → l[i]? = some i := fun i hi => by
  have := List.all_eq_true.1 h i (List.mem_range.2 hi)
  cases hl : l[i]? with
  | none => rw [hl] at this; cases this
  | some j => rw [hl] at this; rw [Nat.eq_of_beq_eq_true this]


end Go.LE
