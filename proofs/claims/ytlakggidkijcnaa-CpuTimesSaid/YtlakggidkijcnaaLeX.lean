import Derived.Test.YtlakggidkijcnaaLeV
set_option linter.all false
/- The evaluator that follows a guide. -/
namespace Go.LE
open Go

variable {P : Program} {N : Nat} {α β : Type}

/-! ### regions that draw their order -/
def setTop (s : DS) (v : Value) : DS :=
  match s.done with
  | (j, e) :: l => { s with done := (j, { e with v := v }) :: l }
  | [] => s
def topV (s : DS) : Value :=
  match s.done with
  | (_, e) :: _ => e.v
  | [] => undefV
def MD : Mc DS where
  top := topV
  set := setTop
  hp := fun s => s.h
  reh := fun s h => { s with h := h }
  set_top := fun s => by
    unfold setTop topV
    split
    · rename_i j e l h
      cases s
      simp only at h
      subst h
      rfl
    · rfl
  reh_hp := fun _ => rfl

def dirs : Option Dir → List Dir
  | none => []
  | some d => [d]

def stpD (P : Program) (N : Nat) (all : Array Oper) (tm0 : Tm) (h0 : Heap) (o : Oper) (d : Option Dir) (s : DS) : Option (DS × List Prop) :=
  match dstep P N all tm0 h0 o { s with ds := dirs d, obs := [] } with
  | some s1 => some ({ s1 with ds := [], obs := s.obs }, s1.obs)
  | none => none

def runD (P : Program) (N : Nat) (all : Array Oper) (tm0 : Tm) (h0 : Heap) (K : DS → Gd P α → Out β) : List Oper → DS → Gd P α → Out β
  | [], s, g => K s g
  | o :: l, s, g =>
    match lwanted all (selTm (maskOf s.done o.after.toList) s.done tm0) o with
    | some true => stepG MD (stpD P N all tm0 h0 o) (fun s1 g1 => runD P N all tm0 h0 K l s1 g1) g s
    | some false =>
      match stpD P N all tm0 h0 o none s with
      | some (s1, []) => runD P N all tm0 h0 K l s1 g
      | _ => .f
    | none => .f

theorem stpD_ok {all : Array Oper} {tm0 : Tm} {h0 : Heap} {o : Oper} {l : List Oper} {d : Option Dir} {s s1 fin : DS} {obs : List Prop} (h : stpD P N all tm0 h0 o d s = some (s1, obs)) (ho : All obs) (k : DRuns P N all tm0 h0 l s1 fin) :
    DRuns P N all tm0 h0 (o :: l) s fin := by
  unfold stpD at h
  split at h
  · rename_i s2 h2
    cases h
    obtain ⟨d1, d2, d3, _, r, kind, hit, pinned, v, h', obs, e1, sw⟩ := dstep_spec h2 ho
    refine .cons [] kind hit pinned v h' [] d1 d2 d3 ?_ ?_ k
    · rw [e1]; rfl
    · cases sw with
      | off hw => exact .off hw
      | float v hw h => exact .float v hw h
      | calm b v hw h1 h2 h3 => exact .calm b v hw h1 h2 h3
      | alloc b hw h1 h2 => exact .alloc b hw h1 h2
      | quiet v hw h1 h2 h3 => exact .quiet v hw h1 h2 h3
      | pin v hit h' hw h1 h2 h3 h4 => exact .pin v hit h' hw h1 h2 h3 h4
  · cases h

theorem runD_ok {all : Array Oper} {tm0 : Tm} {h0 : Heap} {K : DS → Gd P α → Out β} (φ : α → β) {y : α} : ∀ (l : List Oper) {s : DS} {g : Gd P α}, runD P N all tm0 h0 K l s g = g.exp φ → g.run = some y →
    ∃ fin g', DRuns P N all tm0 h0 l s fin ∧ K fin g' = g'.exp φ ∧ g'.run = some y
  | [], s, g, h, hr => ⟨s, g, .nil s, h, hr⟩
  | o :: l, s, g, h, hr => by
    unfold runD at h
    split at h
    · obtain ⟨d, s1, obs, g1, h1, h2, h3, h4⟩ := stepG_ok MD _ _ φ h hr
      obtain ⟨fin, g', k1, k2, k3⟩ := runD_ok φ l h3 h4
      exact ⟨fin, g', stpD_ok h1 h2 k1, k2, k3⟩
    · split at h
      · rename_i s1 h1
        obtain ⟨fin, g', k1, k2, k3⟩ := runD_ok φ l h hr
        exact ⟨fin, g', stpD_ok h1 trivial k1, k2, k3⟩
      · rw [Gd.exp_f φ h.symm] at hr; cases hr
    · rw [Gd.exp_f φ h.symm] at hr; cases hr

/-! ### regions in their order -/
def MU : Mc (Tm × Heap) where
  top := fun s => match s.1 with | (_, v) :: _ => v | [] => undefV
  set := fun s v => match s.1 with | (t, _) :: l => ((t, v) :: l, s.2) | [] => s
  hp := fun s => s.2
  reh := fun s h => (s.1, h)
  set_top := fun s => by
    obtain ⟨tm, h⟩ := s
    cases tm with
    | nil => rfl
    | cons x l => rfl
  reh_hp := fun _ => rfl

def stpU (P : Program) (N : Nat) (o : Oper) (d : Option Dir) (s : Tm × Heap) : Option ((Tm × Heap) × List Prop) :=
  bif dstOk N o.dst then
    match evOp P o s.1 s.2 s.2.length d with
    | some (v, h', obs) => some ((putTm o.dst v s.1, h'), obs)
    | none => none
  else none

def runU (P : Program) (N : Nat) (all : Array Oper) (K : Tm × Heap → Gd P α → Out β) : List Oper → Tm × Heap → Gd P α → Out β
  | [], s, g => K s g
  | o :: l, s, g =>
    match lwanted all s.1 o with
    | some true => stepG MU (stpU P N o) (fun s1 g1 => runU P N all K l s1 g1) g s
    | some false => bif dstOk N o.dst then runU P N all K l (putTm o.dst undefV s.1, s.2) g else .f
    | none => .f

theorem stpU_ok {all : Array Oper} {o : Oper} {l : List Nat} {k : Nat} {d : Option Dir} {s s1 : Tm × Heap} {obs : List Prop} {tm2 : Tm} {h2 : Heap} (h0 : all[k]? = some o) (hw : lwanted all s.1 o = some true) (h : stpU P N o d s = some (s1, obs)) (ho : All obs)
    (kk : LOps P N all l s1.1 s1.2 tm2 h2) : LOps P N all (k :: l) s.1 s.2 tm2 h2 := by
  unfold stpU at h
  cases hd : dstOk N o.dst with
  | false => rw [hd] at h; cases h
  | true =>
    rw [hd] at h
    simp only [cond_true] at h
    split at h
    · rename_i v h' obs' he
      cases h
      exact LOps.cons h0 hw hd (evOp_ok he ho) kk
    · cases h

theorem runU_ok {all : Array Oper} {K : Tm × Heap → Gd P α → Out β} (φ : α → β) {y : α} : ∀ (l : List Oper) (k : Nat), (∀ j, l[j]? = all[k + j]?) → ∀ {s : Tm × Heap} {g : Gd P α}, runU P N all K l s g = g.exp φ → g.run = some y →
    ∃ s' g', LOps P N all (List.range' k l.length) s.1 s.2 s'.1 s'.2 ∧ K s' g' = g'.exp φ ∧ g'.run = some y
  | [], k, _, s, g, h, hr => ⟨s, g, LOps.nil, h, hr⟩
  | o :: l, k, hk, s, g, h, hr => by
    have h0 : all[k]? = some o := by simpa using (hk 0).symm
    have hk' : ∀ j, l[j]? = all[k + 1 + j]? := fun j => by have := hk (j + 1); simpa [Nat.add_assoc, Nat.add_comm 1 j] using this
    unfold runU at h
    rw [List.length_cons, List.range'_succ]
    split at h
    · rename_i hw
      obtain ⟨d, s1, obs, g1, h1, h2, h3, h4⟩ := stepG_ok MU _ _ φ h hr
      obtain ⟨fin, g', k1, k2, k3⟩ := runU_ok φ l (k + 1) hk' h3 h4
      exact ⟨fin, g', stpU_ok h0 hw h1 h2 k1, k2, k3⟩
    · rename_i hw
      cases hd : dstOk N o.dst with
      | false => rw [hd] at h; rw [Gd.exp_f φ h.symm] at hr; cases hr
      | true =>
        rw [hd] at h
        obtain ⟨fin, g', k1, k2, k3⟩ := runU_ok φ l (k + 1) hk' h hr
        exact ⟨fin, g', LOps.off h0 hw hd k1, k2, k3⟩
    · rw [Gd.exp_f φ h.symm] at hr; cases hr

/-! ### code -/
/-- Rounds, one by one. -/
def iterK (f : Tm → Heap → Gd P α → (Ex → Tm → Heap → Gd P α → Out β) → Out β) (K : Ex → Tm → Heap → Gd P α → Out β) : Nat → Tm → Heap → Gd P α → Out β
  | 0, _, _, _ => .f
  | n + 1, tm, h, g => f tm h g fun e tm1 h1 g1 =>
    match e with
    | .normal => iterK f K n tm1 h1 g1
    | .exit id => K (.exit id) tm1 h1 g1
    | .ret => K .ret tm1 h1 g1

def evK (P : Program) (N n0 : Nat) : Code → Tm → Heap → Gd P α → (Ex → Tm → Heap → Gd P α → Out β) → Out β
  | .skip, tm, h, g, K => K .normal tm h g
  | .ret, tm, h, g, K => K .ret tm h g
  | .exit id, tm, h, g, K => K (.exit id) tm h g
  | .seq a b, tm, h, g, K => evK P N n0 a tm h g fun e tm1 h1 g1 =>
    match e with
    | .normal => evK P N n0 b tm1 h1 g1 K
    | .exit id => K (.exit id) tm1 h1 g1
    | .ret => K .ret tm1 h1 g1
  | .cond c a b, tm, h, g, K =>
    match lev tm c with
    | some (.bool t) => bif t then evK P N n0 a tm h g K else evK P N n0 b tm h g K
    | _ => .f
  | .block id c, tm, h, g, K => evK P N n0 c tm h g fun e tm1 h1 g1 =>
    match e with
    | .exit i => bif Nat.beq i id then K .normal tm1 h1 g1 else K (.exit i) tm1 h1 g1
    | .normal => K .normal tm1 h1 g1
    | .ret => K .ret tm1 h1 g1
  | .region _ ops draw, tm, h, g, K =>
    bif draw then runD P N ops (restTm ops.toList tm) h (fun s g1 => K .normal (endTm s.done (restTm ops.toList tm)) s.h g1) ops.toList (ds0 h [] []) g
    else runU P N ops (fun s g1 => K .normal s.1 s.2 g1) ops.toList (tm, h) g
  | .loop c, tm, h, g, K =>
    match g with
    | .l keep out nils L x _ _ _ k =>
      match enterL n0 keep out nils tm h with
      | some (tm0, h0, obs) => .ob obs (.all L.Y fun y => .ob [LCodeP P N n0 (.loop c) tm0 h0 (L.ex y) (L.tmO y) (L.hO y)] (K (L.ex y) (L.tmO y) (L.hO y) (k y)))
      | none => .f
    | .ll keep out nils L x _ _ _ A B inj _ _ ka kb =>
      match enterL n0 keep out nils tm h with
      | some (tm0, h0, obs) => .ob obs (.v A (fun a => .ob [LCodeP P N n0 (.loop c) tm0 h0 (L.ex (inj (.inl a))) (L.tmO (inj (.inl a))) (L.hO (inj (.inl a)))] (K (L.ex (inj (.inl a))) (L.tmO (inj (.inl a))) (L.hO (inj (.inl a))) (ka a)))
        (.all B fun a => .ob [LCodeP P N n0 (.loop c) tm0 h0 (L.ex (inj (.inr a))) (L.tmO (inj (.inr a))) (L.hO (inj (.inr a)))] (K (L.ex (inj (.inr a))) (L.tmO (inj (.inr a))) (L.hO (inj (.inr a))) (kb a))))
      | none => .f
    | g => iterK (fun tm h g K => evK P N n0 c tm h g K) K 320 tm h g
  | _, _, _, _, _ => .f

theorem iterK_ok {n0 : Nat} (φ : α → β) {y : α} {c : Code} {f : Tm → Heap → Gd P α → (Ex → Tm → Heap → Gd P α → Out β) → Out β}
    (ih : ∀ (tm : Tm) (h : Heap) (g : Gd P α) (K : Ex → Tm → Heap → Gd P α → Out β), f tm h g K = g.exp φ → g.run = some y → ∃ e tm' h' g', LCodeP P N n0 c tm h e tm' h' ∧ K e tm' h' g' = g'.exp φ ∧ g'.run = some y)
    {K : Ex → Tm → Heap → Gd P α → Out β} : ∀ (n : Nat) (tm : Tm) (h : Heap) (g : Gd P α), iterK f K n tm h g = g.exp φ → g.run = some y → ∃ e tm' h' g', LRoundsP P N n0 c tm h e tm' h' ∧ K e tm' h' g' = g'.exp φ ∧ g'.run = some y
  | 0, tm, h, g, he, hr => by
    have : Gd.run g = none := Gd.exp_f φ he.symm
    rw [this] at hr; cases hr
  | n + 1, tm, h, g, he, hr => by
    unfold iterK at he
    obtain ⟨e, tm1, h1, g1, a1, a2, a3⟩ := ih _ _ _ _ he hr
    cases e with
    | normal =>
      obtain ⟨e, tm2, h2, g2, b1, b2, b3⟩ := iterK_ok φ ih n tm1 h1 g1 a2 a3
      exact ⟨e, tm2, h2, g2, .next a1 b1, b2, b3⟩
    | exit id => exact ⟨_, tm1, h1, g1, .out a1 (by simp), a2, a3⟩
    | ret => exact ⟨_, tm1, h1, g1, .out a1 (by simp), a2, a3⟩

theorem evK_ok {n0 : Nat} (hm : P.follows .mixedOrders = true) (φ : α → β) {y : α} : ∀ (c : Code) {tm : Tm} {h : Heap} {g : Gd P α} {K : Ex → Tm → Heap → Gd P α → Out β}, evK P N n0 c tm h g K = g.exp φ → g.run = some y →
    ∃ e tm' h' g', LCodeP P N n0 c tm h e tm' h' ∧ K e tm' h' g' = g'.exp φ ∧ g'.run = some y
  | .skip, tm, h, g, K, he, hr => ⟨_, tm, h, g, LCodeP.of LCode.skip, he, hr⟩
  | .ret, tm, h, g, K, he, hr => ⟨_, tm, h, g, LCodeP.of LCode.ret, he, hr⟩
  | .exit id, tm, h, g, K, he, hr => ⟨_, tm, h, g, LCodeP.of LCode.exit, he, hr⟩
  | .seq a b, tm, h, g, K, he, hr => by
    unfold evK at he
    obtain ⟨e, tm1, h1, g1, a1, a2, a3⟩ := evK_ok hm φ a he hr
    cases e with
    | normal =>
      obtain ⟨e, tm2, h2, g2, b1, b2, b3⟩ := evK_ok hm φ b a2 a3
      exact ⟨e, tm2, h2, g2, a1.seq b1, b2, b3⟩
    | exit id => exact ⟨_, tm1, h1, g1, a1.seq_out (by simp), a2, a3⟩
    | ret => exact ⟨_, tm1, h1, g1, a1.seq_out (by simp), a2, a3⟩
  | .cond c a b, tm, h, g, K, he, hr => by
    unfold evK at he
    split at he
    · rename_i t ht
      cases t with
      | true =>
        obtain ⟨e, tm1, h1, g1, a1, a2, a3⟩ := evK_ok hm φ a he hr
        exact ⟨e, tm1, h1, g1, LCodeP.cond ht (by simpa using a1), a2, a3⟩
      | false =>
        obtain ⟨e, tm1, h1, g1, a1, a2, a3⟩ := evK_ok hm φ b he hr
        exact ⟨e, tm1, h1, g1, LCodeP.cond ht (by simpa using a1), a2, a3⟩
    · rw [Gd.exp_f φ he.symm] at hr; cases hr
  | .block id c, tm, h, g, K, he, hr => by
    unfold evK at he
    obtain ⟨e, tm1, h1, g1, a1, a2, a3⟩ := evK_ok hm φ c he hr
    cases e with
    | normal => exact ⟨_, tm1, h1, g1, a1.block (by simp), a2, a3⟩
    | ret => exact ⟨_, tm1, h1, g1, a1.block (by simp), a2, a3⟩
    | exit i =>
      simp only at a2
      cases hb : Nat.beq i id with
      | true =>
        rw [hb] at a2
        have := Nat.eq_of_beq_eq_true hb
        subst this
        exact ⟨_, tm1, h1, g1, a1.block_exit, a2, a3⟩
      | false =>
        rw [hb] at a2
        exact ⟨_, tm1, h1, g1, a1.block (by have := Nat.ne_of_beq_eq_false hb; simpa using this), a2, a3⟩
  | .region id ops draw, tm, h, g, K, he, hr => by
    unfold evK at he
    cases draw with
    | true =>
      obtain ⟨fin, g', k1, k2, k3⟩ := runD_ok φ _ he hr
      exact ⟨_, _, _, g', LCodeP.of (LCode.drawn hm k1), k2, k3⟩
    | false =>
      obtain ⟨s, g', k1, k2, k3⟩ := runU_ok φ ops.toList 0 (fun j => by simp) he hr
      refine ⟨_, _, _, g', LCodeP.of (LCode.region ?_), k2, k3⟩
      rw [List.range_eq_range']
      simpa using k1
  | .loop c, tm, h, g, K, he, hr => by
    unfold evK at he
    split at he
    · rename_i keep out nils L x ps p hp k
      split at he
      · rename_i tm0 h0 obs h1
        simp only [Gd.exp] at he
        injection he with e0 e1
        injection e1 with _ e2
        simp only [Gd.run] at hr
        cases p with
        | false => cases hr
        | true =>
          subst e0
          have ho := hp rfl
          cases hF : L.F x with
          | none => rw [hF] at hr; cases hr
          | some z =>
            rw [hF] at hr
            have e3 := congrFun e2 z
            injection e3 with e4 e5
            injection e4 with e6 _
            have := L.ok x z hF
            rw [← e6] at this
            exact ⟨_, _, _, _, enterL_ok h1 ho this, e5, hr⟩
      · rw [Gd.exp_f φ he.symm] at hr; cases hr
    · rename_i keep out nils L x ps p hp A B inj sel hs ka kb
      split at he
      · rename_i tm0 h0 obs h1
        simp only [Gd.exp] at he
        injection he with e0 e1
        injection e1 with _ e2 e2'
        injection e2' with _ e2'
        simp only [Gd.run] at hr
        cases p with
        | false => cases hr
        | true =>
          subst e0
          have ho := hp rfl
          cases hF : L.F x with
          | none => rw [hF] at hr; cases hr
          | some z =>
            rw [hF] at hr
            simp only [cond_true, Option.bind_some] at hr
            split at hr
            · rename_i a ha
              have e3 := congrFun e2 a
              injection e3 with e4 e5
              injection e4 with e6 _
              have := L.ok x (inj (.inl a)) (by rw [← ha, hs]; exact hF)
              rw [← e6] at this
              exact ⟨_, _, _, _, enterL_ok h1 ho this, e5, hr⟩
            · rename_i a ha
              have e3 := congrFun e2' a
              injection e3 with e4 e5
              injection e4 with e6 _
              have := L.ok x (inj (.inr a)) (by rw [← ha, hs]; exact hF)
              rw [← e6] at this
              exact ⟨_, _, _, _, enterL_ok h1 ho this, e5, hr⟩
      · rw [Gd.exp_f φ he.symm] at hr; cases hr
    · obtain ⟨e, tm1, h1, g1, a1, a2, a3⟩ := iterK_ok (P := P) (N := N) (n0 := n0) (c := c) φ (fun tm h g K he hr => evK_ok hm φ c he hr) 320 tm h _ he hr
      exact ⟨e, tm1, h1, g1, a1.loop, a2, a3⟩
  | .rangeFunc _ _ _ _, tm, h, g, K, he, hr | .scope _, tm, h, g, K, he, hr | .label _, tm, h, g, K, he, hr | .goto _, tm, h, g, K, he, hr | .refuse _, tm, h, g, K, he, hr => by
    unfold evK at he
    have : Gd.run g = none := Gd.exp_f φ he.symm
    rw [this] at hr; cases hr

/-! ### a loop's round -/
def finB (keep : Ex → List Nat) (n0 : Nat) (e : Ex) (tm : Tm) (h : Heap) (g : Gd P α) : Out (Ex × Tm × Heap) :=
  match g with
  | .e out _ _ _ _ =>
    bif nodupB (out.map (·.1)) && fixed n0 (out.map (·.1)) then
      match smallD h (out.map (·.1)) out, outTm (out.map (·.1)) tm (keep e) with
      | some (hs, obs), some tm2 => .ob obs (.lf (e, tm2, hs))
      | _, _ => .f
    else .f
  | _ => .f

def evB (P : Program) (N n0 : Nat) (c : Code) (keep : Ex → List Nat) (tm : Tm) (h : Heap) (g : Gd P α) : Out (Ex × Tm × Heap) := evK P N n0 c tm h g (finB keep n0)

theorem evB_ok {n0 : Nat} (hm : P.follows .mixedOrders = true) {φ : α → Ex × Tm × Heap} {c : Code} {keep : Ex → List Nat} {tm : Tm} {h : Heap} {g : Gd P α} {y : α} (he : evB P N n0 c keep tm h g = g.exp φ) (hr : g.run = some y) :
    LCodeP P N n0 c tm h (φ y).1 (φ y).2.1 (φ y).2.2 := by
  obtain ⟨e, tm1, h1, g1, hc, k1, k2⟩ := evK_ok hm φ c he hr
  have nof1 : ¬ (Out.f = g1.exp φ) := fun h => by rw [Gd.exp_f φ h.symm] at k2; cases k2
  unfold finB at k1
  split at k1
  · rename_i out ps p hp z
    cases hb : (nodupB (out.map (·.1)) && fixed n0 (out.map (·.1))) with
    | false => rw [hb] at k1; exact (nof1 k1).elim
    | true =>
      rw [hb] at k1
      simp only [cond_true] at k1
      simp only [Bool.and_eq_true] at hb
      split at k1
      · rename_i hs obs tm2 h2 h3
        simp only [Gd.exp] at k1
        injection k1 with q1 q2
        injection q2 with q2
        simp only [Gd.run] at k2
        cases p with
        | false => cases k2
        | true =>
          cases k2
          subst q1
          rw [← q2]
          exact hc.rename hb.1 hb.2 h2 (hp rfl) h3
      · exact (nof1 k1).elim
  · exact (nof1 k1).elim

/-! ### functions -/
def finK (P : Program) (rs : List ResultVar) (n : Nat) (e : Ex) (tm : Tm) (h : Heap) (g : Gd P α) : Out (Value × Heap) :=
  match g with
  | .e out _ _ _ _ =>
    match e with
    | .exit _ => .f
    | _ =>
      bif fixed n (out.map (·.1)) && nodupB (out.map (·.1)) then
        match resOf P tm h rs with
        | some l =>
          match resV l with
          | some v =>
            match inv (out.map (·.1)) v, smallD h (out.map (·.1)) out with
            | some u, some (hs, obs) => .ob obs (.lf (u, hs))
            | _, _ => .f
          | none => .f
        | none => .f
      else .f
  | _ => .f

def evF (P : Program) (f : Nat) (args : List Value) (h : Heap) (g : Gd P α) : Out (Value × Heap) :=
  match P.funcs[f]? with
  | some fn =>
    match fn.body with
    | some c => bif Nat.ble args.length fn.ntmps then evK P fn.ntmps h.length c (argTm 0 args) h g (finK P fn.results.toList h.length) else .f
    | none => .f
  | none => .f

theorem evF_ok (hm : P.follows .mixedOrders = true) {φ : α → Value × Heap} {f : Nat} {args : List Value} {h : Heap} {g : Gd P α} {y : α} (he : evF P f args h g = g.exp φ) (hr : g.run = some y) : LCalls P f args h (φ y).1 (φ y).2 := by
  have nof : ¬ (Out.f = g.exp φ) := fun h => by rw [Gd.exp_f φ h.symm] at hr; cases hr
  unfold evF at he
  cases hf : P.funcs[f]? with
  | none => rw [hf] at he; exact (nof he).elim
  | some fn =>
    rw [hf] at he
    simp only at he
    cases hb : fn.body with
    | none => rw [hb] at he; exact (nof he).elim
    | some c =>
      rw [hb] at he
      simp only at he
      cases hl : Nat.ble args.length fn.ntmps with
      | false => rw [hl] at he; exact (nof he).elim
      | true =>
        rw [hl] at he
        simp only [cond_true] at he
        have l1 := Nat.le_of_ble_eq_true hl
        obtain ⟨e, tm, h1, g1, hc, k1, k2⟩ := evK_ok hm φ c he hr
        have nof1 : ¬ (Out.f = g1.exp φ) := fun h => by rw [Gd.exp_f φ h.symm] at k2; cases k2
        unfold finK at k1
        split at k1
        · rename_i out ps p hp z
          split at k1
          · exact (nof1 k1).elim
          · rename_i hne
            cases hb2 : (fixed h.length (out.map (·.1)) && nodupB (out.map (·.1))) with
            | false => rw [hb2] at k1; exact (nof1 k1).elim
            | true =>
              rw [hb2] at k1
              simp only [cond_true] at k1
              simp only [Bool.and_eq_true] at hb2
              cases h2 : resOf P tm h1 fn.results.toList with
              | none => rw [h2] at k1; exact (nof1 k1).elim
              | some l =>
                rw [h2] at k1
                simp only at k1
                cases h3 : resV l with
                | none => rw [h3] at k1; exact (nof1 k1).elim
                | some u0 =>
                  rw [h3] at k1
                  simp only at k1
                  split at k1
                  · rename_i u hs obs h4 h5
                    simp only [Gd.exp] at k1
                    injection k1 with q1 q2
                    injection q2 with q2
                    simp only [Gd.run] at k2
                    cases p with
                    | false => cases k2
                    | true =>
                      cases k2
                      subst q1
                      have o1 := hp rfl
                      rw [← q2]
                      intro base ρ w hi hargs
                      have r0 : Rel base fn.ntmps [] h ρ (argTm 0 args) { tmps := (⟨args.map (tr ρ)⟩ : Array Value) ++ Array.replicate (fn.ntmps - (⟨args.map (tr ρ)⟩ : Array Value).size) undef, defers := [] } w :=
                        { inv := hi
                          size := by simp; omega
                          defers := rfl
                          tmp := fun t x hx => by
                            obtain ⟨_, h5⟩ := argTm_look args 0 t x hx
                            simp only [Nat.sub_zero] at h5
                            refine ⟨?_, hargs x (List.mem_of_getElem? h5)⟩
                            have hlt : t < args.length := (List.getElem?_eq_some_iff.1 h5).1
                            rw [Array.getElem?_append_left (by simpa using hlt)]
                            simp [h5] }
                      refine calls_of_wp hf hb ?_
                      refine wp_mono (hc base [] ρ _ w r0) ?_
                      rintro e' a' w' ⟨rfl, ρ', mp, r'⟩
                      have m := mp h ρ w (Nat.le_refl _) (Moves.refl hi)
                      obtain ⟨part, hborn⟩ := PartD.of hb2.2 h5 o1 r'.inv.wfHeap
                      have mm := m.out part (fixed_ok hb2.1)
                      obtain ⟨q1, q2⟩ := resOf_run (P := P) r' h2
                      obtain ⟨p1, p2⟩ := resV_ok (h := h1) (ρ := ρ') h3 q2
                      obtain ⟨i1, i2⟩ := inv_ok (H := h1) hborn h4 p2
                      have e5 : tr ρ' u0 = tr (pick ρ' (out.map (·.1))) u := by
                        rw [← (tie (part.ties r'.inv) u i2).1, i1]
                      have hrun : (results fn a'.tmps).run P w' = .ok (tr (pick ρ' (out.map (·.1))) u) w' := by
                        rw [results_eq, Array.mapM_eq_mapM_toList]
                        simp only [Sem.run_bind, Sem.run_map, q1, Result.andThen_ok, Sem.run_pure]
                        rw [← e5]
                        exact congrArg (fun x => Result.ok x w') p1
                      have post : bodyPost P fn (fun e w' => ∃ ρ', Moves base h ρ w hs ρ' w' ∧ wf hs u = true ∧ e = .returned (tr ρ' u)) .ret a' w' :=
                        ⟨r'.defers, _, hrun, pick ρ' (out.map (·.1)), mm, i2, rfl⟩
                      cases e with
                      | exit id => exact (hne id rfl).elim
                      | normal => exact post
                      | ret => exact post
                  · exact (nof1 k1).elim
        · exact (nof1 k1).elim
end Go.LE
