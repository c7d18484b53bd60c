import Derived.Calls
import Derived.Orders
import Derived.LoopN
import Derived.Laws.Cells
import Derived.Laws.Rows
import Derived.Laws.World
import Derived.KernelRfl
set_option linter.all false
/- The local machine: values and memory of one call, told apart from the world's other memory. -/
namespace Go.LE
open Go

/-- A block of the local memory: its cells; does the call own it (else it is only read)?; of a row that may be appended to: its element's type and size. -/
structure Blk where
  vals : List Value
  own : Bool
  row : Option (Nat × Nat)

inductive Sl where
  | live (b : Blk)
  | dead
  | unborn

abbrev Heap := List Sl
abbrev Tm := List (Nat × Value)

/-- Where a local block lies in the world. -/
structure Loc where
  nil : Bool
  block : Nat
  off : Nat
  esz : Nat
  ecap : Nat

abbrev Rho := List Loc

def look : Tm → Nat → Option Value
  | [], _ => none
  | (t, v) :: l, u => bif Nat.beq t u then some v else look l u

def isBorn (h : Heap) (i : Nat) : Bool :=
  match h[i]? with
  | some (.live _) => true
  | some .dead => true
  | _ => false

def tr0 (ρ : Rho) : Value → Value
  | .pointer (some ⟨i, o, _⟩) =>
    match ρ[i]? with
    | some l => .pointer (some ⟨l.block, l.off + o, none⟩)
    | none => .pointer none
  | .slice (some ⟨i, o, _⟩) n c =>
    match ρ[i]? with
    | some l => if l.nil = true then .slice none n n else .slice (some ⟨l.block, l.off + o, none⟩) n (if c = 0 then l.ecap - o / l.esz else c)
    | none => .slice none 0 0
  | v => v

def tr1 (ρ : Rho) : Value → Value
  | .func fn f c => .func fn ⟨f.toList.map (tr0 ρ)⟩ ⟨c.toList.map (tr0 ρ)⟩
  | .iface t v => .iface t (tr0 ρ v)
  | v => tr0 ρ v

def tr2 (ρ : Rho) : Value → Value
  | .agg cs => .agg ⟨cs.toList.map (tr1 ρ)⟩
  | v => tr1 ρ v

def tr (ρ : Rho) : Value → Value
  | .tuple vs => .tuple ⟨vs.toList.map (tr2 ρ)⟩
  | v => tr2 ρ v

def wf0 (h : Heap) : Value → Bool
  | .pointer (some ⟨i, _, s⟩) => isBorn h i && s.isNone
  | .slice (some ⟨i, _, s⟩) _ _ => isBorn h i && s.isNone
  | .func _ _ _ => false
  | .iface _ _ => false
  | .agg _ => false
  | .tuple _ => false
  | .map (some _) => false
  | .chan (some _) => false
  | _ => true

def isFunc : Fn → Bool
  | .func _ => true
  | _ => false

def wf1 (h : Heap) : Value → Bool
  | .func fn f c => isFunc fn && (f.toList.all (wf0 h) && c.toList.all (wf0 h))
  | .iface _ v => wf0 h v
  | v => wf0 h v

def wf2 (h : Heap) : Value → Bool
  | .agg cs => cs.toList.all (wf1 h)
  | v => wf1 h v

def wf (h : Heap) : Value → Bool
  | .tuple vs => vs.toList.all (wf2 h)
  | v => wf2 h v

def low1 : Value → Bool
  | .func _ _ _ => false
  | .iface _ _ => false
  | _ => true
def low2 : Value → Bool
  | .agg _ => false
  | _ => true
def low3 : Value → Bool
  | .tuple _ => false
  | _ => true
theorem wf1_low {h : Heap} {v : Value} (hl : low1 v = true) : wf1 h v = wf0 h v := by cases v <;> first | rfl | simp [low1] at hl
theorem tr1_low {ρ : Rho} {v : Value} (hl : low1 v = true) : tr1 ρ v = tr0 ρ v := by cases v <;> first | rfl | simp [low1] at hl
theorem wf2_low {h : Heap} {v : Value} (hl : low2 v = true) : wf2 h v = wf1 h v := by cases v <;> first | rfl | simp [low2] at hl
theorem tr2_low {ρ : Rho} {v : Value} (hl : low2 v = true) : tr2 ρ v = tr1 ρ v := by cases v <;> first | rfl | simp [low2] at hl
theorem wf_low {h : Heap} {v : Value} (hl : low3 v = true) : wf h v = wf2 h v := by cases v <;> first | rfl | simp [low3] at hl
theorem tr_low {ρ : Rho} {v : Value} (hl : low3 v = true) : tr ρ v = tr2 ρ v := by cases v <;> first | rfl | simp [low3] at hl

theorem tr0_congr {h : Heap} {ρ ρ' : Rho} (hb : ∀ i, isBorn h i = true → ρ'[i]? = ρ[i]?) : ∀ (v : Value), wf0 h v = true → tr0 ρ' v = tr0 ρ v
  | .pointer (some ⟨i, o, s⟩), hv => by
    simp only [wf0, Bool.and_eq_true] at hv
    simp only [tr0, hb i hv.1]
  | .slice (some ⟨i, o, s⟩) n c, hv => by
    simp only [wf0, Bool.and_eq_true] at hv
    simp only [tr0, hb i hv.1]
  | .pointer none, _ | .slice none _ _, _ | .bool _, _ | .int _ _, _ | .float _ _, _ | .complex _ _ _, _ | .string _, _ | .map _, _ | .chan _, _ | .func _ _ _, _ | .nilFunc, _
  | .iface _ _, _ | .nilIface, _ | .agg _, _ | .tuple _, _ => rfl

theorem map_congr_all {f g : Value → Value} {p : Value → Bool} (h : ∀ v, p v = true → f v = g v) (l : List Value) (hl : l.all p = true) : l.map f = l.map g :=
  List.map_congr_left fun v hv => h v (List.all_eq_true.1 hl v hv)

theorem tr1_congr {h : Heap} {ρ ρ' : Rho} (hb : ∀ i, isBorn h i = true → ρ'[i]? = ρ[i]?) (v : Value) (hv : wf1 h v = true) : tr1 ρ' v = tr1 ρ v := by
  cases v with
  | func fn f c =>
    simp only [wf1, Bool.and_eq_true] at hv
    simp only [tr1, map_congr_all (tr0_congr hb) _ hv.2.1, map_congr_all (tr0_congr hb) _ hv.2.2]
  | iface t v => simp only [tr1, tr0_congr hb v hv]
  | _ => rw [wf1_low rfl] at hv; rw [tr1_low rfl, tr1_low rfl]; exact tr0_congr hb _ hv

theorem tr2_congr {h : Heap} {ρ ρ' : Rho} (hb : ∀ i, isBorn h i = true → ρ'[i]? = ρ[i]?) (v : Value) (hv : wf2 h v = true) : tr2 ρ' v = tr2 ρ v := by
  cases v with
  | agg cs => simp only [tr2, map_congr_all (tr1_congr hb) _ hv]
  | _ => rw [wf2_low rfl] at hv; rw [tr2_low rfl, tr2_low rfl]; exact tr1_congr hb _ hv

theorem tr_congr {h : Heap} {ρ ρ' : Rho} (hb : ∀ i, isBorn h i = true → ρ'[i]? = ρ[i]?) (v : Value) (hv : wf h v = true) : tr ρ' v = tr ρ v := by
  cases v with
  | tuple vs => simp only [tr, map_congr_all (tr2_congr hb) _ hv]
  | _ => rw [wf_low rfl] at hv; rw [tr_low rfl, tr_low rfl]; exact tr2_congr hb _ hv

/-! wf grows with what is born -/
theorem wf0_mono {h h' : Heap} (hb : ∀ i, isBorn h i = true → isBorn h' i = true) : ∀ (v : Value), wf0 h v = true → wf0 h' v = true
  | .pointer (some ⟨i, o, s⟩), hv => by
    simp only [wf0, Bool.and_eq_true] at hv ⊢
    exact ⟨hb i hv.1, hv.2⟩
  | .slice (some ⟨i, o, s⟩) n c, hv => by
    simp only [wf0, Bool.and_eq_true] at hv ⊢
    exact ⟨hb i hv.1, hv.2⟩
  | .pointer none, _ | .slice none _ _, _ | .bool _, _ | .int _ _, _ | .float _ _, _ | .complex _ _ _, _ | .string _, _ | .map none, _ | .chan none, _ | .nilFunc, _
  | .nilIface, _ => rfl
  | .map (some _), hv | .chan (some _), hv | .func _ _ _, hv | .iface _ _, hv | .agg _, hv | .tuple _, hv => by simp [wf0] at hv

theorem all_mono {p q : Value → Bool} (h : ∀ v, p v = true → q v = true) (l : List Value) (hl : l.all p = true) : l.all q = true :=
  List.all_eq_true.2 fun v hv => h v (List.all_eq_true.1 hl v hv)

theorem wf1_mono {h h' : Heap} (hb : ∀ i, isBorn h i = true → isBorn h' i = true) (v : Value) (hv : wf1 h v = true) : wf1 h' v = true := by
  cases v with
  | func fn f c =>
    simp only [wf1, Bool.and_eq_true] at hv ⊢
    exact ⟨hv.1, all_mono (wf0_mono hb) _ hv.2.1, all_mono (wf0_mono hb) _ hv.2.2⟩
  | iface t v => exact wf0_mono hb v hv
  | _ => rw [wf1_low rfl] at hv ⊢; exact wf0_mono hb _ hv

theorem wf2_mono {h h' : Heap} (hb : ∀ i, isBorn h i = true → isBorn h' i = true) (v : Value) (hv : wf2 h v = true) : wf2 h' v = true := by
  cases v with
  | agg cs => exact all_mono (wf1_mono hb) _ hv
  | _ => rw [wf2_low rfl] at hv ⊢; exact wf1_mono hb _ hv

theorem wf_mono {h h' : Heap} (hb : ∀ i, isBorn h i = true → isBorn h' i = true) (v : Value) (hv : wf h v = true) : wf h' v = true := by
  cases v with
  | tuple vs => exact all_mono (wf2_mono hb) _ hv
  | _ => rw [wf_low rfl] at hv ⊢; exact wf2_mono hb _ hv

/-! levels -/
theorem low1_of_wf0 {h : Heap} {v : Value} (hv : wf0 h v = true) : low1 v = true := by cases v <;> first | rfl | simp [wf0] at hv
theorem low2_of_wf1 {h : Heap} {v : Value} (hv : wf1 h v = true) : low2 v = true := by cases v <;> first | rfl | simp [wf1, wf0] at hv
theorem low3_of_wf2 {h : Heap} {v : Value} (hv : wf2 h v = true) : low3 v = true := by cases v <;> first | rfl | simp [wf2, wf1, wf0] at hv
theorem wf1_of_wf0 {h : Heap} {v : Value} (hv : wf0 h v = true) : wf1 h v = true := by rw [wf1_low (low1_of_wf0 hv)]; exact hv
theorem wf2_of_wf1 {h : Heap} {v : Value} (hv : wf1 h v = true) : wf2 h v = true := by rw [wf2_low (low2_of_wf1 hv)]; exact hv
theorem wf_of_wf2 {h : Heap} {v : Value} (hv : wf2 h v = true) : wf h v = true := by rw [wf_low (low3_of_wf2 hv)]; exact hv
theorem wf_of_wf1 {h : Heap} {v : Value} (hv : wf1 h v = true) : wf h v = true := wf_of_wf2 (wf2_of_wf1 hv)
theorem tr1_of_wf0 {h : Heap} {ρ : Rho} {v : Value} (hv : wf0 h v = true) : tr1 ρ v = tr0 ρ v := tr1_low (low1_of_wf0 hv)
theorem tr2_of_wf1 {h : Heap} {ρ : Rho} {v : Value} (hv : wf1 h v = true) : tr2 ρ v = tr1 ρ v := tr2_low (low2_of_wf1 hv)
theorem tr_of_wf2 {h : Heap} {ρ : Rho} {v : Value} (hv : wf2 h v = true) : tr ρ v = tr2 ρ v := tr_low (low3_of_wf2 hv)
theorem tr_of_wf1 {h : Heap} {ρ : Rho} {v : Value} (hv : wf1 h v = true) : tr ρ v = tr1 ρ v := by
  rw [tr_of_wf2 (wf2_of_wf1 hv), tr2_of_wf1 hv]

end Go.LE
