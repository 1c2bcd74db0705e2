/- The abstract machine: operands, and the operations that read no memory. -/
import Derived.Test.YtgihdlhoaimlpaaGreatDoorAMd
namespace Go.Proofs.YtgihdlhoaimlpaaGreatDoor.AM
set_option autoImplicit false
set_option linter.unusedSimpArgs false
set_option linter.unusedVariables false

mutual
def V.of : Value → Option V
  | .bool b => some (.bool b)
  | .int k n => some (.int k n)
  | .string s => some (.str (strOf s))
  | .pointer none => some .nilp
  | .slice none 0 0 => some .nils
  | .map none => some .nilm
  | .nilFunc => some .nilf
  | .nilIface => some .nili
  | .agg ⟨l⟩ => (V.ofL l).map .agg
  | .tuple ⟨l⟩ => (V.ofL l).map .tup
  | .func (.func f) ⟨[]⟩ ⟨[]⟩ => some (.fn f [] [])
  | .iface t v => (V.of v).map (.iface t)
  | _ => none
def V.ofL : List Value → Option (List V)
  | [] => some []
  | v :: l => match V.of v, V.ofL l with
    | some u, some m => some (u :: m)
    | _, _ => none
end

mutual
theorem V.of_rel (ρ : Ren) : ∀ (v : Value) (u : V), V.of v = some u → VRel ρ u v
  | .bool b, u, h => by simp [V.of] at h; subst h; simp [VRel]
  | .int k n, u, h => by simp [V.of] at h; subst h; simp [VRel]
  | .string s, u, h => by simp [V.of] at h; subst h; simp [VRel]
  | .pointer none, u, h => by simp [V.of] at h; subst h; simp [VRel]
  | .pointer (some a), u, h => by simp [V.of] at h
  | .slice none 0 0, u, h => by simp [V.of] at h; subst h; simp [VRel]
  | .slice none (n + 1) c, u, h => by simp [V.of] at h
  | .slice none 0 (c + 1), u, h => by simp [V.of] at h
  | .slice (some a) n c, u, h => by simp [V.of] at h
  | .map none, u, h => by simp [V.of] at h; subst h; simp [VRel]
  | .map (some a), u, h => by simp [V.of] at h
  | .nilFunc, u, h => by simp [V.of] at h; subst h; simp [VRel]
  | .nilIface, u, h => by simp [V.of] at h; subst h; simp [VRel]
  | .agg ⟨l⟩, u, h => by
    simp only [V.of, Option.map_eq_some_iff] at h
    obtain ⟨m, h, rfl⟩ := h
    simp only [VRel]; exact V.ofL_rel ρ l m h
  | .tuple ⟨l⟩, u, h => by
    simp only [V.of, Option.map_eq_some_iff] at h
    obtain ⟨m, h, rfl⟩ := h
    simp only [VRel]; exact V.ofL_rel ρ l m h
  | .func (.func f) ⟨[]⟩ ⟨[]⟩, u, h => by simp [V.of] at h; subst h; simp [VRel, LRel]
  | .func (.func f) ⟨_ :: _⟩ y, u, h => by simp [V.of] at h
  | .func (.func f) ⟨[]⟩ ⟨_ :: _⟩, u, h => by simp [V.of] at h
  | .func (.method n) x y, u, h => by simp [V.of] at h
  | .func (.methodOf t n) x y, u, h => by simp [V.of] at h
  | .func (.via t p f b) x y, u, h => by simp [V.of] at h
  | .func (.yield l) x y, u, h => by simp [V.of] at h
  | .iface t v, u, h => by
    simp only [V.of, Option.map_eq_some_iff] at h
    obtain ⟨m, h, rfl⟩ := h
    simp only [VRel]; exact ⟨trivial, V.of_rel ρ v m h⟩
  | .float k n, u, h => by simp [V.of] at h
  | .complex k n m, u, h => by simp [V.of] at h
  | .chan r, u, h => by simp [V.of] at h
theorem V.ofL_rel (ρ : Ren) : ∀ (l : List Value) (m : List V), V.ofL l = some m → LRel ρ m l
  | [], m, h => by simp [V.ofL] at h; subst h; simp [LRel]
  | v :: l, m, h => by
    simp only [V.ofL] at h
    split at h
    · rename_i u m' h1 h2
      simp at h; subst h
      simp only [LRel]
      exact ⟨V.of_rel ρ v u h1, V.ofL_rel ρ l m' h2⟩
    · cases h
end

/-- The temporaries of a frame. -/
def ERel (ρ : Ren) (nt : Nat) (env : T V) (tmps : Array Value) : Prop :=
  tmps.size = nt ∧ ∀ t v, env.get t = some v → ∃ v', tmps[t]? = some v' ∧ VRel ρ v v'

theorem ERel.mono {ρ ρ' : Ren} (h : Ext ρ ρ') {nt : Nat} {env : T V} {tmps : Array Value} (r : ERel ρ nt env tmps) : ERel ρ' nt env tmps :=
  ⟨r.1, fun t v e => let ⟨v', a, b⟩ := r.2 t v e; ⟨v', a, b.mono h⟩⟩

theorem ERel.put {ρ : Ren} {nt : Nat} {env : T V} {tmps : Array Value} (r : ERel ρ nt env tmps) {d : Nat} (hd : d < nt) {v : V} {v' : Value} (hv : VRel ρ v v') :
    ERel ρ nt (env.set d (some v)) (tmps.setIfInBounds d v') := by
  refine ⟨by simp [r.1], fun t u e => ?_⟩
  rw [T.get_set] at e
  split at e
  · rename_i e'; subst e'; simp at e; subst e; exact ⟨v', by simp [r.1, hd], hv⟩
  · rename_i e'
    obtain ⟨u', a, b⟩ := r.2 t u e
    exact ⟨u', by rw [Array.getElem?_setIfInBounds_ne (Ne.symm e')]; exact a, b⟩

/-- The package-level variables lie where the model has them. -/
def GOK (ρ : Ren) (G : Nat) : Prop := ∀ g, g < G → PRel ρ g 0 ⟨g, 0, none⟩

theorem GOK.mono {ρ ρ' : Ren} (h : Ext ρ ρ') {G : Nat} (g : GOK ρ G) : GOK ρ' G := fun i hi => (g i hi).mono h

def opV (G : Nat) (env : T V) : Operand → Option V
  | .tmp t => env.get t
  | .const v => V.of v
  | .global g => bif Nat.blt g G then some (.ptr g 0) else none
  | .func f => some (.fn f [] [])

theorem opV_rel {ρ : Ren} {nt G : Nat} {env : T V} {a : Act} (r : ERel ρ nt env a.tmps) (g : GOK ρ G) {x : Operand} {v : V} (h : opV G env x = some v) : VRel ρ v (a.eval x) := by
  cases x with
  | tmp t =>
    obtain ⟨v', h1, h2⟩ := r.2 t v h
    simp only [Act.eval, Array.getD_eq_getD_getElem?, h1, Option.getD_some]; exact h2
  | const c => exact V.of_rel ρ c v h
  | global i =>
    simp only [opV] at h
    cases e : Nat.blt i G with
    | false => rw [e] at h; simp at h
    | true =>
      rw [e] at h; simp at h; subst h
      simp only [Act.eval, VRel]
      exact g i (Nat.le_of_ble_eq_true e)
  | func f => simp [opV] at h; subst h; simp [Act.eval, VRel, LRel]

def opL (G : Nat) (env : T V) : List Operand → Option (List V)
  | [] => some []
  | x :: l => match opV G env x, opL G env l with
    | some v, some m => some (v :: m)
    | _, _ => none

theorem opL_rel {ρ : Ren} {nt G : Nat} {env : T V} {a : Act} (r : ERel ρ nt env a.tmps) (g : GOK ρ G) : ∀ {l : List Operand} {m : List V}, opL G env l = some m → LRel ρ m (l.map a.eval)
  | [], m, h => by simp [opL] at h; subst h; simp [LRel]
  | x :: l, m, h => by
    simp only [opL] at h
    split at h
    · rename_i v m' h1 h2
      simp at h; subst h
      simp only [LRel, List.map_cons]
      exact ⟨opV_rel r g h1, opL_rel r g h2⟩
    · cases h

/-- An operation that gives a value and leaves the world. -/
def Gives (P : Program) (s : Sem Next) (w : World) (ρ : Ren) (v : V) : Prop := ∃ v', s.run P w = .ok (.value v') w ∧ VRel ρ v v'
def GivesV (P : Program) (s : Sem Value) (w : World) (ρ : Ren) (v : V) : Prop := ∃ v', s.run P w = .ok v' w ∧ VRel ρ v v'

theorem GivesV.toNext {P : Program} {s : Sem Value} {w : World} {ρ : Ren} {v : V} (h : GivesV P s w ρ v) : Gives P (do pure (.value (← s))) w ρ v := by
  obtain ⟨v', h1, h2⟩ := h
  exact ⟨v', by simp [h1], h2⟩

/-- The fields of a struct type, the element of an array or a slice .. -/
def fieldsOf (P : Program) (t : Nat) : Option (Array Field) := match P.underlying t with
  | some (.struct fs) => some fs
  | _ => none
def szOf (P : Program) (t : Nat) : Option Nat := (P.info? t).map (·.size)
def aggB (P : Program) (t : Nat) : Option Bool := match P.underlying t with
  | some (.struct _) | some (.array _ _) => some true
  | some _ => some false
  | none => none
def elemSl (P : Program) (t : Nat) : Option Nat := match P.underlying t with
  | some (.slice e) => some e
  | _ => none

theorem run_szOf {P : Program} {t n : Nat} (h : szOf P t = some n) (w : World) : (sizeOf t).run P w = .ok n w := by
  simp only [szOf, Option.map_eq_some_iff] at h
  obtain ⟨i, h1, h2⟩ := h
  simp [sizeOf, typeInfo, h1, h2]
theorem run_und {P : Program} {t : Nat} {d : TypeDesc} (h : P.underlying t = some d) (w : World) : (underlying t).run P w = .ok d w := by
  simp [underlying, h]
theorem run_aggB {P : Program} {t : Nat} {b : Bool} (h : aggB P t = some b) (w : World) : (isAgg t).run P w = .ok b w := by
  unfold aggB at h
  cases e : P.underlying t with
  | none => simp [e] at h
  | some d => cases d <;> simp [e] at h <;> subst h <;> simp [isAgg, underlying, e]
theorem fieldsOf_und {P : Program} {t : Nat} {fs : Array Field} (h : fieldsOf P t = some fs) : P.underlying t = some (.struct fs) := by
  unfold fieldsOf at h; split at h <;> simp_all
theorem elemSl_und {P : Program} {t e : Nat} (h : elemSl P t = some e) : P.underlying t = some (.slice e) := by
  unfold elemSl at h; split at h <;> simp_all

/-- A part of a struct or an array. -/
def partV (P : Program) (t : Nat) (l : List V) (o : Nat) : Option V := match aggB P t, szOf P t with
  | some true, some n => some (.agg ((l.drop o).take n))
  | some false, _ => l[o]?
  | _, _ => none

theorem partV_ok {P : Program} {ρ : Ren} {w : World} {t o : Nat} {l : List V} {l' : Array Value} {v : V} (h : partV P t l o = some v) (r : LRel ρ l l'.toList) :
    GivesV P (part t l' o) w ρ v := by
  unfold partV at h
  split at h
  · rename_i n h1 h2
    simp at h; subst h
    refine ⟨.agg (l'.extract o (o + n)), by simp [part, run_aggB h1, run_szOf h2], ?_⟩
    simp only [VRel]
    have := (r.drop o).take n
    simpa [List.take_drop, Array.toList_extract, List.extract_eq_take_drop] using this
  · rename_i h1
    obtain ⟨v', h2, h3⟩ := r.get o v h
    have h2' : l'[o]? = some v' := by simpa using h2
    exact ⟨v', by simp [part, run_aggB h1, h2'], h3⟩
  · cases h

end Go.Proofs.YtgihdlhoaimlpaaGreatDoor.AM
