import Derived.Test.YtlakggidkijcnaaLeJ
set_option linter.all false
/- A call sees a part of the memory: the frame. -/
namespace Go.LE
open Go

def rn0 (σ : List Nat) : Value → Value
  | .pointer (some ⟨i, o, _⟩) =>
    match σ[i]? with
    | some j => .pointer (some ⟨j, o, none⟩)
    | none => .pointer none
  | .slice (some ⟨i, o, _⟩) n c =>
    match σ[i]? with
    | some j => .slice (some ⟨j, o, none⟩) n c
    | none => .slice none n c
  | v => v
def rn1 (σ : List Nat) : Value → Value
  | .func fn f c => .func fn ⟨f.toList.map (rn0 σ)⟩ ⟨c.toList.map (rn0 σ)⟩
  | .iface t v => .iface t (rn0 σ v)
  | v => rn0 σ v
def rn2 (σ : List Nat) : Value → Value
  | .agg cs => .agg ⟨cs.toList.map (rn1 σ)⟩
  | v => rn1 σ v
def rn (σ : List Nat) : Value → Value
  | .tuple vs => .tuple ⟨vs.toList.map (rn2 σ)⟩
  | v => rn2 σ v

theorem rn1_low {σ : List Nat} {v : Value} (hl : low1 v = true) : rn1 σ v = rn0 σ v := by cases v <;> first | rfl | simp [low1] at hl
theorem rn2_low {σ : List Nat} {v : Value} (hl : low2 v = true) : rn2 σ v = rn1 σ v := by cases v <;> first | rfl | simp [low2] at hl
theorem rn_low {σ : List Nat} {v : Value} (hl : low3 v = true) : rn σ v = rn2 σ v := by cases v <;> first | rfl | simp [low3] at hl

/-- How two memories' places stand to each other. -/
def Ties (h : Heap) (ρ : Rho) (σ : List Nat) (H : Heap) (R : Rho) : Prop := ∀ i, isBorn h i = true → ∃ (j : Nat) (l : Loc), σ[i]? = some j ∧ ρ[i]? = some l ∧ R[j]? = some l ∧ isBorn H j = true

section
variable {h H : Heap} {ρ R : Rho} {σ : List Nat}

theorem tie0 (t : Ties h ρ σ H R) (v : Value) (hv : wf0 h v = true) : tr0 R (rn0 σ v) = tr0 ρ v ∧ wf0 H (rn0 σ v) = true := by
  cases v with
  | pointer a =>
    cases a with
    | none => exact ⟨rfl, rfl⟩
    | some a =>
      obtain ⟨i, o, s⟩ := a
      simp only [wf0, Bool.and_eq_true] at hv
      obtain ⟨j, l, h1, h2, h3, h4⟩ := t i hv.1
      simp [rn0, h1, tr0, h2, h3, wf0, h4]
  | slice a n c =>
    cases a with
    | none => exact ⟨rfl, rfl⟩
    | some a =>
      obtain ⟨i, o, s⟩ := a
      simp only [wf0, Bool.and_eq_true] at hv
      obtain ⟨j, l, h1, h2, h3, h4⟩ := t i hv.1
      simp [rn0, h1, tr0, h2, h3, wf0, h4]
  | map r => cases r <;> first | exact ⟨rfl, rfl⟩ | simp [wf0] at hv
  | chan r => cases r <;> first | exact ⟨rfl, rfl⟩ | simp [wf0] at hv
  | func fn f c => cases hv
  | iface t v => cases hv
  | agg cs => cases hv
  | tuple vs => cases hv
  | _ => exact ⟨rfl, rfl⟩

theorem tie_list {f g r : Value → Value} {p q : Value → Bool} (hk : ∀ v, p v = true → g (r v) = f v ∧ q (r v) = true) (l : List Value) (hl : l.all p = true) : (l.map r).map g = l.map f ∧ (l.map r).all q = true := by
  induction l with
  | nil => exact ⟨rfl, rfl⟩
  | cons x l ih =>
    simp only [List.all_cons, Bool.and_eq_true] at hl
    obtain ⟨h1, h2⟩ := hk x hl.1
    obtain ⟨i1, i2⟩ := ih hl.2
    exact ⟨by simp only [List.map_cons, h1, i1], by simp only [List.map_cons, List.all_cons, h2, i2, Bool.and_self]⟩

theorem rn0_low1 {v : Value} (hv : wf0 h v = true) : low1 (rn0 σ v) = true := by
  cases v with
  | pointer a =>
    cases a with
    | none => rfl
    | some a => simp only [rn0]; split <;> rfl
  | slice a n c =>
    cases a with
    | none => rfl
    | some a => simp only [rn0]; split <;> rfl
  | func fn f c => cases hv
  | iface t v => cases hv
  | _ => rfl

theorem tie1 (t : Ties h ρ σ H R) (v : Value) (hv : wf1 h v = true) : tr1 R (rn1 σ v) = tr1 ρ v ∧ wf1 H (rn1 σ v) = true := by
  cases v with
  | func fn f c =>
    simp only [wf1, Bool.and_eq_true] at hv
    obtain ⟨a1, a2⟩ := tie_list (tie0 t) _ hv.2.1
    obtain ⟨b1, b2⟩ := tie_list (tie0 t) _ hv.2.2
    exact ⟨by simp only [rn1, tr1, a1, b1], by simp only [rn1, wf1, Bool.and_eq_true]; exact ⟨hv.1, a2, b2⟩⟩
  | iface ty v =>
    obtain ⟨a1, a2⟩ := tie0 t v hv
    exact ⟨by simp only [rn1, tr1, a1], a2⟩
  | _ =>
    rw [wf1_low rfl] at hv
    obtain ⟨a1, a2⟩ := tie0 t _ hv
    rw [rn1_low rfl]
    exact ⟨by rw [tr1_low (rn0_low1 hv), a1]; rfl, wf1_of_wf0 a2⟩

theorem tie2 (t : Ties h ρ σ H R) (v : Value) (hv : wf2 h v = true) : tr2 R (rn2 σ v) = tr2 ρ v ∧ wf2 H (rn2 σ v) = true := by
  cases v with
  | agg cs =>
    obtain ⟨a1, a2⟩ := tie_list (tie1 t) _ hv
    exact ⟨by simp only [rn2, tr2, a1], a2⟩
  | _ =>
    rw [wf2_low rfl] at hv
    obtain ⟨a1, a2⟩ := tie1 t _ hv
    rw [rn2_low rfl]
    exact ⟨by rw [tr2_low (low2_of_wf1 a2), a1]; rfl, wf2_of_wf1 a2⟩

theorem tie (t : Ties h ρ σ H R) (v : Value) (hv : wf h v = true) : tr R (rn σ v) = tr ρ v ∧ wf H (rn σ v) = true := by
  cases v with
  | tuple vs =>
    obtain ⟨a1, a2⟩ := tie_list (tie2 t) _ hv
    exact ⟨by simp only [rn, tr, a1], a2⟩
  | _ =>
    rw [wf_low rfl] at hv
    obtain ⟨a1, a2⟩ := tie2 t _ hv
    rw [rn_low rfl]
    exact ⟨by rw [tr_low (low3_of_wf2 a2), a1]; rfl, wf_of_wf2 a2⟩

end

/-! ### the part of a memory -/
/-- The small memory hs lies in H at σ. -/
def Part (hs : Heap) (σ : List Nat) (H : Heap) : Prop :=
  σ.Nodup ∧ hs.length = σ.length ∧ ∀ (i : Nat) (s : Sl), hs[i]? = some s → ∃ (bs b : Blk) (j : Nat), s = .live bs ∧ σ[i]? = some j ∧ H[j]? = some (Sl.live b) ∧ bs.own = b.own ∧ bs.row = b.row ∧ b.vals = bs.vals.map (rn1 σ) ∧
    ∀ v ∈ bs.vals, wf1 hs v = true

/-- The places of the part. -/
def pick (ρ : Rho) (σ : List Nat) : Rho := σ.map fun j => ρ.getD j ⟨false, 0, 0, 0, 0⟩

theorem pick_get {ρ : Rho} {σ : List Nat} {i j : Nat} {l : Loc} (hi : σ[i]? = some j) (hl : ρ[j]? = some l) : (pick ρ σ)[i]? = some l := by
  unfold pick
  rw [List.getElem?_map, hi]
  simp [List.getD_eq_getElem?_getD, hl]

theorem Part.ties {hs H : Heap} {σ : List Nat} {base : Nat} {ρ : Rho} {w : World} (p : Part hs σ H) (hi : Inv base H ρ w) : Ties hs (pick ρ σ) σ H ρ := by
  intro i hb
  have hlt := born_lt hb
  obtain ⟨bs, b, j, e1, e2, e3, _⟩ := p.2.2 i hs[i] (List.getElem?_eq_getElem hlt)
  obtain ⟨l, hl⟩ := hi.loc (born_live e3)
  exact ⟨j, l, e2, pick_get e2 hl, hl, born_live e3⟩

theorem Part.get {hs H : Heap} {σ : List Nat} (p : Part hs σ H) {i : Nat} {bs : Blk} (hi : hs[i]? = some (Sl.live bs)) : ∃ (b : Blk) (j : Nat), σ[i]? = some j ∧ H[j]? = some (Sl.live b) ∧ bs.own = b.own ∧ bs.row = b.row ∧
    b.vals = bs.vals.map (rn1 σ) ∧ ∀ v ∈ bs.vals, wf1 hs v = true := by
  obtain ⟨bs', b, j, e1, e2⟩ := p.2.2 i _ hi
  cases e1
  exact ⟨b, j, e2⟩

theorem nodup_inj {σ : List Nat} (hn : σ.Nodup) {i j k : Nat} (h1 : σ[i]? = some k) (h2 : σ[j]? = some k) : i = j := by
  have hi := (List.getElem?_eq_some_iff.1 h1).1
  exact (List.getElem?_inj hi hn).1 (h1.trans h2.symm)

theorem Part.inv {hs H : Heap} {σ : List Nat} {base : Nat} {ρ : Rho} {w : World} (p : Part hs σ H) (hi : Inv base H ρ w) : Inv base hs (pick ρ σ) w where
  len := by simp [pick, p.2.1]
  base_le := hi.base_le
  blk := fun i bs hb => by
    obtain ⟨b, j, e1, e2, e3, e4, e5, e6⟩ := p.get hb
    obtain ⟨l, hl, hw, hc⟩ := hi.blk j b e2
    have cell : ∀ (k : Nat) (v : Value), bs.vals[k]? = some v → b.vals[k]? = some (rn1 σ v) ∧ tr1 ρ (rn1 σ v) = tr1 (pick ρ σ) v := fun k v hk =>
      ⟨by rw [e5, List.getElem?_map, hk]; rfl, (tie1 (p.ties hi) v (e6 v (List.mem_of_getElem? hk))).1⟩
    refine ⟨l, pick_get e1 hl, e6, ?_⟩
    rcases hc with ⟨h1, h2, h3⟩ | ⟨h1, h2, h3, cs, e, fr, h4, h5, h6, h7⟩ | ⟨h1, h2, h3, h4⟩
    · refine .inl ⟨h1, ?_, by rw [e3]; exact h3⟩
      rw [h2] at e5
      exact List.map_eq_nil_iff.1 e5.symm
    · exact .inr (.inl ⟨h1, by rw [e3]; exact h2, h3, cs, e, fr, h4, h5, by rw [e4]; exact h6, fun k v hk => by rw [h7 k _ (cell k v hk).1, (cell k v hk).2]⟩)
    · exact .inr (.inr ⟨h1, by rw [e3]; exact h2, h3, fun k v hk => by rw [h4 k _ (cell k v hk).1, (cell k v hk).2]⟩)
  apart := fun i j bi bj li lj hij hi' hj' oi oj ri rj ni nj => by
    obtain ⟨b1, k1, a1, a2, a3, _⟩ := p.get hi'
    obtain ⟨b2, k2, c1, c2, c3, _⟩ := p.get hj'
    obtain ⟨l1, hl1⟩ := hi.loc (born_live a2)
    obtain ⟨l2, hl2⟩ := hi.loc (born_live c2)
    rw [pick_get a1 hl1] at ri
    rw [pick_get c1 hl2] at rj
    cases ri
    cases rj
    exact hi.apart k1 k2 b1 b2 li lj (fun e => hij (nodup_inj p.1 a1 (by rw [c1, e]))) a2 c2 (by rw [← a3]; exact oi) (by rw [← c3]; exact oj) hl1 hl2 ni nj

theorem Part.owns {hs H : Heap} {σ : List Nat} {base : Nat} {ρ : Rho} {w : World} (p : Part hs σ H) (hi : Inv base H ρ w) {k : Nat} (ho : Owns hs (pick ρ σ) k) : ∃ (i j : Nat) (b : Blk) (l : Loc), σ[i]? = some j ∧ H[j]? = some (Sl.live b) ∧ b.own = true ∧ ρ[j]? = some l ∧ l.nil = false ∧ l.block = k := by
  obtain ⟨i, b, l, h1, h2, h3, h4, h5⟩ := ho
  obtain ⟨b1, j, a1, a2, a3, _⟩ := p.get h1
  obtain ⟨l1, hl1⟩ := hi.loc (born_live a2)
  rw [pick_get a1 hl1] at h3
  cases h3
  exact ⟨i, j, b1, l, a1, a2, by rw [← a3]; exact h2, hl1, h4, h5⟩

/-! ### back into the whole -/
def setMany : Heap → List Nat → Heap → Heap
  | H, j :: σ, s :: hs => setMany (H.set j s) σ hs
  | H, _, _ => H

theorem setMany_length : ∀ (σ : List Nat) (hs H : Heap), (setMany H σ hs).length = H.length
  | [], _, _ => by simp [setMany]
  | _ :: _, [], _ => by simp [setMany]
  | j :: σ, s :: hs, H => by simp only [setMany]; rw [setMany_length σ hs, List.length_set]

theorem setMany_other : ∀ (σ : List Nat) (hs H : Heap) (k : Nat), k ∉ σ → (setMany H σ hs)[k]? = H[k]?
  | [], _, _, _, _ => by simp [setMany]
  | _ :: _, [], _, _, _ => by simp [setMany]
  | j :: σ, s :: hs, H, k, hk => by
    simp only [setMany]
    rw [setMany_other σ hs _ k (fun h => hk (List.mem_cons_of_mem _ h)), List.getElem?_set_ne (fun e => hk (by rw [e]; exact List.mem_cons_self ..))]

theorem setMany_same : ∀ (σ : List Nat) (hs H : Heap) (i j : Nat) (s : Sl), σ.Nodup → σ[i]? = some j → hs[i]? = some s → j < H.length → (setMany H σ hs)[j]? = some s
  | [], _, _, _, _, _, _, h, _, _ => by simp at h
  | _ :: _, [], _, _, _, _, _, _, h, _ => by simp at h
  | k :: σ, t :: hs, H, 0, j, s, hn, h1, h2, hl => by
    simp at h1 h2
    subst h1; subst h2
    simp only [setMany]
    rw [setMany_other σ hs _ k (List.nodup_cons.1 hn).1, List.getElem?_set_self hl]
  | k :: σ, t :: hs, H, i + 1, j, s, hn, h1, h2, hl => by
    simp only [setMany]
    exact setMany_same σ hs _ i j s (List.nodup_cons.1 hn).2 (by simpa using h1) (by simpa using h2) (by rw [List.length_set]; exact hl)

/-- The places of what the call has left. -/
def places (σ : List Nat) (n m : Nat) : List Nat := σ ++ (List.range (m - σ.length)).map (· + n)

/-- A small memory's block as the whole memory has it. -/
def Back (σ : List Nat) : Sl → Sl → Prop
  | .live bs, .live b => bs.own = b.own ∧ bs.row = b.row ∧ b.vals = bs.vals.map (rn1 σ)
  | .dead, .dead => True
  | _, _ => False

theorem Back.live {σ : List Nat} {s : Sl} {b : Blk} (h : Back σ s (.live b)) : ∃ bs : Blk, s = .live bs ∧ bs.own = b.own ∧ bs.row = b.row ∧ b.vals = bs.vals.map (rn1 σ) := by
  cases s with
  | live bs => exact ⟨bs, rfl, h⟩
  | dead => exact h.elim
  | unborn => exact h.elim

theorem Back.born {σ : List Nat} {s t : Sl} (h : Back σ s t) : t ≠ .unborn ∧ s ≠ .unborn := by
  cases s <;> cases t <;> first | exact h.elim | exact ⟨by simp, by simp⟩

theorem isBorn_some {h : Heap} {i : Nat} {s : Sl} (hi : h[i]? = some s) (hs : s ≠ .unborn) : isBorn h i = true := by
  unfold isBorn
  rw [hi]
  cases s <;> first | rfl | exact absurd rfl hs

theorem Moves.frame {base : Nat} {hs hs' H B : Heap} {σ : List Nat} {ρ ρs' : Rho} {w w' : World} (p : Part hs σ H) (hi : Inv base H ρ w) (m : Moves base hs (pick ρ σ) w hs' ρs' w') (hB : B.length = hs'.length)
    (back : ∀ (i : Nat) (s t : Sl), hs'[i]? = some s → B[i]? = some t → Back (places σ H.length hs'.length) s t) :
    ∃ ρ', Moves base H ρ w (setMany H σ (B.take σ.length) ++ B.drop σ.length) ρ' w' ∧ Ties hs' ρs' (places σ H.length hs'.length) (setMany H σ (B.take σ.length) ++ B.drop σ.length) ρ' := by
  have hn : hs.length = σ.length := p.2.1
  have hle : σ.length ≤ hs'.length := by rw [← hn]; exact m.len
  have hlenS : (setMany H σ (B.take σ.length)).length = H.length := setMany_length _ _ _
  have hlenR : ρs'.length = hs'.length := m.inv.len
  refine ⟨ρ ++ ρs'.drop σ.length, ?_⟩
  -- σ's places are inside
  have σlt : ∀ {i j : Nat}, σ[i]? = some j → j < H.length := fun {i j} h => by
    have hil : i < hs.length := by rw [hn]; exact (List.getElem?_eq_some_iff.1 h).1
    obtain ⟨bs, b, j', e1, e2, e3, _⟩ := p.2.2 i hs[i] (List.getElem?_eq_getElem hil)
    rw [h] at e2
    cases e2
    exact (List.getElem?_eq_some_iff.1 e3).1
  have hsBorn : ∀ {i : Nat}, i < σ.length → isBorn hs i = true := fun {i} h => by
    obtain ⟨bs, b, j', e1, e2, e3, _⟩ := p.2.2 i hs[i] (List.getElem?_eq_getElem (by omega))
    exact isBorn_some (List.getElem?_eq_getElem (by omega)) (by rw [e1]; simp)
  -- the new memory, place by place
  have at_old : ∀ {k : Nat}, k < H.length → k ∉ σ → (setMany H σ (B.take σ.length) ++ B.drop σ.length)[k]? = H[k]? := fun {k} hk hns => by
    rw [List.getElem?_append_left (by rw [hlenS]; exact hk), setMany_other _ _ _ _ hns]
  have at_part : ∀ {i j : Nat}, σ[i]? = some j → (setMany H σ (B.take σ.length) ++ B.drop σ.length)[j]? = B[i]? := fun {i j} h => by
    have hil : i < σ.length := (List.getElem?_eq_some_iff.1 h).1
    have hiB : i < B.length := by omega
    rw [List.getElem?_append_left (by rw [hlenS]; exact σlt h), setMany_same σ _ H i j B[i] p.1 h (by rw [List.getElem?_take_of_lt hil]; exact List.getElem?_eq_getElem hiB) (σlt h), List.getElem?_eq_getElem hiB]
  have at_new : ∀ {i : Nat}, σ.length ≤ i → (setMany H σ (B.take σ.length) ++ B.drop σ.length)[H.length + (i - σ.length)]? = B[i]? := fun {i} h => by
    rw [List.getElem?_append_right (by rw [hlenS]; omega), hlenS, List.getElem?_drop]
    congr 1
    omega
  have r_old : ∀ {k : Nat}, k < H.length → (ρ ++ ρs'.drop σ.length)[k]? = ρ[k]? := fun {k} hk => List.getElem?_append_left (by rw [hi.len]; exact hk)
  have r_new : ∀ {i : Nat}, σ.length ≤ i → (ρ ++ ρs'.drop σ.length)[H.length + (i - σ.length)]? = ρs'[i]? := fun {i} h => by
    rw [List.getElem?_append_right (by rw [hi.len]; omega), hi.len, List.getElem?_drop]
    congr 1
    omega
  -- every place of the new memory is one of three
  have three : ∀ {k : Nat} {s : Sl}, (setMany H σ (B.take σ.length) ++ B.drop σ.length)[k]? = some s → (k < H.length ∧ k ∉ σ ∧ H[k]? = some s) ∨ (∃ i, σ[i]? = some k ∧ B[i]? = some s) ∨ (∃ i, σ.length ≤ i ∧ k = H.length + (i - σ.length) ∧ B[i]? = some s) := fun {k s} hk => by
    have hkl : k < (setMany H σ (B.take σ.length) ++ B.drop σ.length).length := (List.getElem?_eq_some_iff.1 hk).1
    rw [List.length_append, hlenS, List.length_drop] at hkl
    rcases Nat.lt_or_ge k H.length with hlt | hge
    · by_cases hm : k ∈ σ
      · obtain ⟨i, hi'⟩ := List.getElem?_of_mem hm
        rw [at_part hi'] at hk
        exact .inr (.inl ⟨i, hi', hk⟩)
      · rw [at_old hlt hm] at hk
        exact .inl ⟨hlt, hm, hk⟩
    · refine .inr (.inr ⟨σ.length + (k - H.length), by omega, by omega, ?_⟩)
      rw [← at_new (by omega)]
      rw [show H.length + (σ.length + (k - H.length) - σ.length) = k by omega]
      exact hk
  -- the small memory's places
  have ext : ∀ {i j : Nat} {l : Loc}, σ[i]? = some j → ρ[j]? = some l → ρs'[i]? = some l := fun {i j l} h1 h2 => by
    rw [m.ext i (hsBorn (List.getElem?_eq_some_iff.1 h1).1)]
    exact pick_get h1 h2
  have ρsome : ∀ {j : Nat}, j < H.length → ∃ l, ρ[j]? = some l := fun {j} h => ⟨ρ[j]'(by rw [hi.len]; exact h), List.getElem?_eq_getElem _⟩
  have ties : Ties hs' ρs' (places σ H.length hs'.length) (setMany H σ (B.take σ.length) ++ B.drop σ.length) (ρ ++ ρs'.drop σ.length) := fun i hb => by
    have hil := born_lt hb
    have hB' : B[i]? = some (B[i]'(by omega)) := List.getElem?_eq_getElem _
    have hbk := back i hs'[i] _ (List.getElem?_eq_getElem hil) hB'
    have hnu := hbk.born.1
    rcases Nat.lt_or_ge i σ.length with h | h
    · have hσ : σ[i]? = some σ[i] := List.getElem?_eq_getElem h
      obtain ⟨l, hl⟩ := ρsome (σlt hσ)
      refine ⟨σ[i], l, ?_, ext hσ hl, by rw [r_old (σlt hσ)]; exact hl, isBorn_some (by rw [at_part hσ]; exact hB') hnu⟩
      unfold places
      rw [List.getElem?_append_left h]
      exact hσ
    · refine ⟨H.length + (i - σ.length), ρs'[i]'(by omega), ?_, List.getElem?_eq_getElem _, by rw [r_new h]; exact List.getElem?_eq_getElem _, isBorn_some (by rw [at_new h]; exact hB') hnu⟩
      unfold places
      rw [List.getElem?_append_right h, List.getElem?_map, List.getElem?_range (by omega)]
      simp [Nat.add_comm]
  refine ⟨?_, ties⟩
  have hborn : ∀ k, isBorn H k = true → isBorn (setMany H σ (B.take σ.length) ++ B.drop σ.length) k = true := fun k hk => by
    have hkl := born_lt hk
    by_cases hm : k ∈ σ
    · obtain ⟨i, hi'⟩ := List.getElem?_of_mem hm
      have hil : i < σ.length := (List.getElem?_eq_some_iff.1 hi').1
      have hB' : B[i]? = some (B[i]'(by omega)) := List.getElem?_eq_getElem _
      exact isBorn_some (by rw [at_part hi']; exact hB') (back i hs'[i] _ (List.getElem?_eq_getElem (by omega)) hB').born.1
    · unfold isBorn at hk ⊢
      rw [at_old hkl hm]
      exact hk
  have hext : ∀ k : Nat, isBorn H k = true → (ρ ++ ρs'.drop σ.length)[k]? = ρ[k]? := fun k hk => r_old (born_lt hk)
  have htr : ∀ v, wf1 H v = true → tr1 (ρ ++ ρs'.drop σ.length) v = tr1 ρ v := fun v hv => tr1_congr hext v hv
  -- a block of the rest is as it was
  have rest : ∀ {k : Nat} {b : Blk} {l : Loc}, H[k]? = some (Sl.live b) → k ∉ σ → ρ[k]? = some l → l.nil = false → (b.own = true ∨ l.block < base) → l.block < w.heap.size → ¬ Owns hs (pick ρ σ) l.block := fun {k b l} h1 h2 h3 h4 h5 h6 ho => by
    obtain ⟨i, j, b', l', a1, a2, a3, a4, a5, a6⟩ := p.owns hi ho
    rcases h5 with h5 | h5
    · exact hi.apart k j b b' l l' (fun e => h2 (by rw [e]; exact List.mem_of_getElem? a1)) h1 a2 h5 a3 h3 a4 h4 a5 a6.symm
    · have := (hi.lt a2 a4 a5 a3).2
      omega
  -- blocks out of the small memory
  have small : ∀ {i : Nat} {b : Blk}, B[i]? = some (Sl.live b) → ∃ bs l, hs'[i]? = some (Sl.live bs) ∧ ρs'[i]? = some l ∧ bs.own = b.own ∧
      BlkOK base (setMany H σ (B.take σ.length) ++ B.drop σ.length) (ρ ++ ρs'.drop σ.length) b l w' := fun {i b} hb => by
    have hil : i < hs'.length := by rw [← hB]; exact (List.getElem?_eq_some_iff.1 hb).1
    obtain ⟨bs, e1, e2, e3, e4⟩ := (back i hs'[i] _ (List.getElem?_eq_getElem hil) hb).live
    have e1' : hs'[i]? = some (Sl.live bs) := by rw [List.getElem?_eq_getElem hil, e1]
    obtain ⟨l, hl, hw, hc⟩ := m.inv.blk i bs e1'
    have cell : ∀ (k : Nat) (v : Value), b.vals[k]? = some v → ∃ u, bs.vals[k]? = some u ∧ tr1 (ρ ++ ρs'.drop σ.length) v = tr1 ρs' u := fun k v hk => by
      rw [e4, List.getElem?_map, Option.map_eq_some_iff] at hk
      obtain ⟨u, hu, rfl⟩ := hk
      exact ⟨u, hu, (tie1 ties u (hw u (List.mem_of_getElem? hu))).1⟩
    refine ⟨bs, l, e1', hl, e2, fun v hv => ?_, ?_⟩
    · rw [e4] at hv
      obtain ⟨u, hu, rfl⟩ := List.mem_map.1 hv
      exact (tie1 ties u (hw u hu)).2
    · rcases hc with ⟨h1, h2, h3⟩ | ⟨h1, h2, h3, cs, e, fr, h4, h5, h6, h7⟩ | ⟨h1, h2, h3, h4⟩
      · exact .inl ⟨h1, by rw [e4, h2]; rfl, by rw [← e2]; exact h3⟩
      · refine .inr (.inl ⟨h1, by rw [← e2]; exact h2, h3, cs, e, fr, h4, h5, by rw [← e3]; exact h6, fun k v hk => ?_⟩)
        obtain ⟨u, hu, e5⟩ := cell k v hk
        rw [e5]
        exact h7 k u hu
      · refine .inr (.inr ⟨h1, by rw [← e2]; exact h2, h3, fun k v hk => ?_⟩)
        obtain ⟨u, hu, e5⟩ := cell k v hk
        rw [e5]
        exact h4 k u hu
  -- of each live block: its loc, and where it comes from
  have from_ : ∀ {k : Nat} {b : Blk} {l : Loc}, (setMany H σ (B.take σ.length) ++ B.drop σ.length)[k]? = some (Sl.live b) → (ρ ++ ρs'.drop σ.length)[k]? = some l → b.own = true → l.nil = false →
      (k < H.length ∧ k ∉ σ ∧ H[k]? = some (Sl.live b) ∧ ρ[k]? = some l) ∨ (∃ i bs, hs'[i]? = some (Sl.live bs) ∧ bs.own = true ∧ ρs'[i]? = some l ∧ (places σ H.length hs'.length)[i]? = some k) := fun {k b l} hk hr ho hnl => by
    rcases three hk with ⟨h1, h2, h3⟩ | ⟨i, h1, h2⟩ | ⟨i, h1, h2, h3⟩
    · rw [r_old h1] at hr
      exact .inl ⟨h1, h2, h3, hr⟩
    · obtain ⟨bs, l', e1, e2, e3, _⟩ := small h2
      rw [r_old (σlt h1)] at hr
      have := ext h1 hr
      refine .inr ⟨i, bs, e1, by rw [e3]; exact ho, this, ?_⟩
      unfold places
      rw [List.getElem?_append_left (List.getElem?_eq_some_iff.1 h1).1]
      exact h1
    · obtain ⟨bs, l', e1, e2, e3, _⟩ := small h3
      rw [h2, r_new h1] at hr
      refine .inr ⟨i, bs, e1, by rw [e3]; exact ho, hr, ?_⟩
      have hil : i < hs'.length := (List.getElem?_eq_some_iff.1 e1).1
      unfold places
      rw [List.getElem?_append_right h1, List.getElem?_map, List.getElem?_range (by omega), h2]
      simp [Nat.add_comm]
  have owns_up : ∀ {k : Nat}, Owns hs (pick ρ σ) k → Owns H ρ k := fun {k} ho => by
    obtain ⟨i, j, b', l', a1, a2, a3, a4, a5, a6⟩ := p.owns hi ho
    exact ⟨j, b', l', a2, a3, a4, a5, a6⟩
  exact
    { born := hborn
      ext := hext
      inv :=
        { len := by simp only [List.length_append, hlenS, List.length_drop, hi.len, hlenR, hB]
          base_le := m.inv.base_le
          blk := fun k b hk => by
            rcases three hk with ⟨h1, h2, h3⟩ | ⟨i, h1, h2⟩ | ⟨i, h1, h2, h3⟩
            · obtain ⟨l, hl, hw, hc⟩ := hi.blk k b h3
              refine ⟨l, by rw [r_old h1]; exact hl, fun v hv => wf1_mono hborn v (hw v hv), ?_⟩
              rcases hc with hc | ⟨g1, g2, g3, cs, e, fr, g4, g5, g6, g7⟩ | ⟨g1, g2, g3, g4⟩
              · exact .inl hc
              · refine .inr (.inl ⟨g1, g2, g3, cs, e, fr, ?_, g5, g6, fun j v hj => by rw [htr v (hw v (List.mem_of_getElem? hj))]; exact g7 j v hj⟩)
                have hlt := (hi.lt h3 hl g1 g2).1
                rw [m.keep _ hlt (rest h3 h2 hl g1 (.inl g2) hlt)]
                exact g4
              · refine .inr (.inr ⟨g1, g2, g3, fun j v hj => ?_⟩)
                have hlt : l.block < w.heap.size := Nat.lt_of_lt_of_le g3 hi.base_le
                rw [htr v (hw v (List.mem_of_getElem? hj)), World.cell?_of_block (w := w) (m.keep _ hlt (rest h3 h2 hl g1 (.inr g3) hlt))]
                exact g4 j v hj
            · obtain ⟨bs, l, e1, e2, e3, e4⟩ := small h2
              obtain ⟨l', hl'⟩ := ρsome (σlt h1)
              have := ext h1 hl'
              rw [e2] at this
              cases this
              exact ⟨l, by rw [r_old (σlt h1)]; exact hl', e4⟩
            · obtain ⟨bs, l, e1, e2, e3, e4⟩ := small h3
              exact ⟨l, by rw [h2, r_new h1]; exact e2, e4⟩
          apart := fun a b ba bb la lb hab ha hb oa ob ra rb na nb => by
            rcases from_ ha ra oa na with ⟨a1, a2, a3, a4⟩ | ⟨i, bs, a1, a2, a3, a4⟩
            · rcases from_ hb rb ob nb with ⟨b1, b2, b3, b4⟩ | ⟨j, bs', b1, b2, b3, b4⟩
              · exact hi.apart a b ba bb la lb hab a3 b3 oa ob a4 b4 na nb
              · have hlt := (hi.lt a3 a4 na oa).1
                intro e
                rcases m.new lb.block ⟨j, bs', lb, b1, b2, b3, nb, rfl⟩ with h | h
                · exact rest a3 a2 a4 na (.inl oa) hlt (by rw [e]; exact h)
                · omega
            · rcases from_ hb rb ob nb with ⟨b1, b2, b3, b4⟩ | ⟨j, bs', b1, b2, b3, b4⟩
              · have hlt := (hi.lt b3 b4 nb ob).1
                intro e
                rcases m.new la.block ⟨i, bs, la, a1, a2, a3, na, rfl⟩ with h | h
                · exact rest b3 b2 b4 nb (.inl ob) hlt (by rw [← e]; exact h)
                · omega
              · exact m.inv.apart i j bs bs' la lb (fun e => hab (by subst e; rw [a4] at b4; exact Option.some.inj b4)) a1 b1 a2 b2 a3 b3 na nb }
      os := m.os
      tape := m.tape
      output := m.output
      size := m.size
      keep := fun k hk hn => m.keep k hk (fun ho => hn (owns_up ho))
      new := fun k ⟨a, b, l, h1, h2, h3, h4, h5⟩ => by
        rcases from_ h1 h3 h2 h4 with ⟨a1, a2, a3, a4⟩ | ⟨i, bs, a1, a2, a3, a4⟩
        · exact .inl ⟨a, b, l, a3, h2, a4, h4, h5⟩
        · rcases m.new k ⟨i, bs, l, a1, a2, a3, h4, h5⟩ with h | h
          · exact .inl (owns_up h)
          · exact .inr h
      grow := fun k b hk hb => by
        have hkl := born_lt hb
        rcases three hk with ⟨h1, h2, h3⟩ | ⟨i, h1, h2⟩ | ⟨i, h1, h2, h3⟩
        · exact ⟨b, h3, rfl⟩
        · obtain ⟨bs, l, e1, e2, e3, e4⟩ := small h2
          obtain ⟨b0, g1, g2⟩ := m.grow i bs e1 (hsBorn (List.getElem?_eq_some_iff.1 h1).1)
          obtain ⟨b1, j, q1, q2, q3, _⟩ := p.get g1
          rw [h1] at q1
          cases q1
          exact ⟨b1, q2, by rw [← q3, g2, e3]⟩
        · omega
      len := by rw [List.length_append, hlenS]; omega }

end Go.LE
