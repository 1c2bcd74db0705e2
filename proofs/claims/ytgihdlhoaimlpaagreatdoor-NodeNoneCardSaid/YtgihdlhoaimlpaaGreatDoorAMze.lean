/- The abstract machine: functions without a body: atomic cells, and marks. -/
import Derived.Test.YtgihdlhoaimlpaaGreatDoorAMzd
import Derived.Laws.LoneSync
namespace Go.Proofs.YtgihdlhoaimlpaaGreatDoor.AM
set_option autoImplicit false
set_option linter.unusedSimpArgs false
set_option linter.unusedVariables false

def loadX (k : IntKind) (args : List V) (h : H) : Option (V × H) := match args with
  | [.ptr b o] => (match h.get b with
    | some (.row _ cs _ _) => (match cs[o]? with
      | some (.int k' n) => if k' = k then some (.int k n, h) else none
      | _ => none)
    | _ => none)
  | _ => none

def storeX (args : List V) (h : H) : Option (V × H) := match args with
  | [.ptr b o, .int k n] => (match h.get b with
    | some (.row e cs opn false) => if o < cs.length then some (.tup [], h.put b (.row e (put cs o [.int k n]) opn false)) else none
    | _ => none)
  | _ => none

def casX (k : IntKind) (args : List V) (h : H) : Option (V × H) := match args with
  | [.ptr b o, .int k1 x, .int k2 y] => (match h.get b with
    | some (.row e cs opn false) => (match cs[o]? with
      | some (.int k3 u) => if k1 = k ∧ k2 = k ∧ k3 = k then (if u = x then some (.bool true, h.put b (.row e (put cs o [.int k y]) opn false)) else some (.bool false, h)) else none
      | _ => none)
    | _ => none)
  | _ => none

def addX (k : IntKind) (args : List V) (h : H) : Option (V × H) := match args with
  | [.ptr b o, .int k1 y] => (match h.get b with
    | some (.row e cs opn false) => (match cs[o]? with
      | some (.int k2 x) => if k1 = k ∧ k2 = k then some (.int k (k.wrap (x + y)), h.put b (.row e (put cs o [.int k (k.wrap (x + y))]) opn false)) else none
      | _ => none)
    | _ => none)
  | _ => none

def mark0X (args : List V) (h : H) : Option (V × H) := match args with
  | [] => some (.tup [], h)
  | _ => none

def markX (args : List V) (h : H) : Option (V × H) := match args with
  | [.ptr _ _] => some (.tup [], h)
  | _ => none

section
variable {P : Program} {ρ : Ren} {h : H} {w : World} {G : Nat}

theorem cell_at {b o e : Nat} {cs : List V} {opn ro : Bool} {a : Addr} {v : V} (s : Sim ρ h w) (hb : h.get b = some (.row e cs opn ro)) (p : PRel ρ b o a) (hv : cs[o]? = some v) :
    ∃ v', w.cell? a = some v' ∧ VRel ρ v v' ∧ (ro = false → w.frozen? a = false) := by
  obtain ⟨W, hW, c, fr, g1, g2, g3, g4, g5, g6, g7⟩ := s.live b _ hb
  obtain rfl := p.addr hW
  obtain ⟨v', h1, h2⟩ := g6 o v hv
  have ho : o < cs.length := (List.getElem?_eq_some_iff.1 hv).1
  refine ⟨v', by simp [World.cell?, g1, h1], h2, fun hr => ?_⟩
  simp only [World.frozen?, g1]
  have := nofr (i := W.sh + o) (g7 hr) (by omega)
  simp; omega

theorem step_cell {b o e : Nat} {cs : List V} {opn : Bool} {a : Addr} {v : V} {v' : Value} (s : Sim ρ h w) (hb : h.get b = some (.row e cs opn false)) (p : PRel ρ b o a) (ho : o < cs.length) (r : VRel ρ v v') (h1 : v.one = true) :
    Step ρ h w ρ (h.put b (.row e (put cs o [v]) opn false)) (w.setCell a v') := by
  obtain ⟨w', h2, h3⟩ := store_cells (P := (default : Program)) (l := [v]) (l' := [v']) s hb p (by simp; omega) (by simp [LRel, r]) (by simp [h1])
  obtain ⟨W, hW, c, fr, g1, g2, g3, g4, g5, g6, g7⟩ := s.live b _ hb
  obtain rfl := p.addr hW
  have := run_storeCells_cells (P := (default : Program)) W.blk (W.sh + o) [v'] 0 w (fun j hj => by
        simp only [World.cell?, g1]
        have : W.sh + o + j < c.size := by simp at hj; omega
        simp [this]) (fun j hj => by
        simp only [World.frozen?, g1]
        have := nofr (i := W.sh + o + 0 + j) (g7 rfl) (by simp at hj; omega)
        simp; omega) (one_of_rels (ρ := ρ) (l := [v]) (l' := [v']) (by simp [LRel, r]) (by simp [h1]))
  have e1 : (storeCells ⟨W.blk, W.sh + o, none⟩ [v']).run (default : Program) w = .ok () (w.setCells W.blk (W.sh + o) [v']) := by simpa using this
  rw [e1] at h2
  cases h2
  simpa [World.setCells] using h3

theorem LRel1 {v : V} {l : Array Value} (r : LRel ρ [v] l.toList) : ∃ a, l = #[a] ∧ VRel ρ v a := by
  obtain ⟨l⟩ := l
  match l, r with
  | [a], r => exact ⟨a, rfl, by simpa [LRel] using r⟩
theorem LRel2 {v u : V} {l : Array Value} (r : LRel ρ [v, u] l.toList) : ∃ a b, l = #[a, b] ∧ VRel ρ v a ∧ VRel ρ u b := by
  obtain ⟨l⟩ := l
  match l, r with
  | [a, b], r => exact ⟨a, b, rfl, by simpa [LRel] using r⟩
theorem LRel3 {v u t : V} {l : Array Value} (r : LRel ρ [v, u, t] l.toList) : ∃ a b c, l = #[a, b, c] ∧ VRel ρ v a ∧ VRel ρ u b ∧ VRel ρ t c := by
  obtain ⟨l⟩ := l
  match l, r with
  | [a, b, c], r => exact ⟨a, b, c, rfl, by simpa [LRel] using r⟩

theorem callsTo_value {f : Nat} {args : Array Value} {v' : Value} {w' : World} {R : Value → World → Prop} (e : (callFunc f args).run P w = .ok (.value v') w') (hr : R v' w') : CallsTo P f args w R := fun o a K Q k => by
  rw [e]; exact k v' w' hr

/-- What is looked at of a function without a body. -/
structure Extn (P : Program) (f : Nat) (e : Array Value → Sem Value) : Prop where
  ok : ∃ fn, P.funcs[f]? = some fn ∧ (fn.name == "runtime.NumGoroutine") = false ∧ fn.body.isNone = true ∧ Extern.findNext fn = none ∧ Extern.find fn = some e

/-- One function answers for itself. -/
def AnsOK (P : Program) (G f : Nat) (g : List V → H → Option (V × H)) : Prop := ∀ args h v h', g args h = some (v, h') →
  ∀ (ρ : Ren) (w : World) (args' : Array Value), Sim ρ h w → GOK ρ G → Fresh ρ h h' → LRel ρ args args'.toList →
    CallsTo P f args' w (fun v' w' => ∃ ρ', Step ρ h w ρ' h' w' ∧ VRel ρ' v v')

def AnsN (g : List V → H → Option (V × H)) : Prop := ∀ args h v h', g args h = some (v, h') → h.n ≤ h'.n

theorem loadX_ok {f : Nat} {k : IntKind} (x : Extn P f (Extern.Atomic.loadT (.int k))) : AnsOK P G f (loadX k) := by
  intro args h v h' e ρ w args' s g fr r
  obtain ⟨fn, x1, x2, x3, x4, x5⟩ := x.ok
  unfold loadX at e
  split at e
  · rename_i b o
    obtain ⟨a, rfl, r1⟩ := LRel1 r
    obtain ⟨ad, rfl, p⟩ := inv_ptr r1
    split at e
    · rename_i el cs opn ro hb
      split at e
      · rename_i k' n hv
        split at e
        · rename_i hk; subst hk
          simp only [Option.some.injEq, Prod.mk.injEq] at e; obtain ⟨rfl, rfl⟩ := e
          obtain ⟨u, c1, c2, c3⟩ := cell_at s hb p hv
          obtain rfl := inv_int c2
          exact callsTo_value (run_call_load x1 x2 x3 x4 _ x5 c1) ⟨ρ, Step.refl s, by simp [VRel]⟩
        · cases e
      · cases e
    · cases e
  · cases e

theorem storeX_ok {f : Nat} (x : Extn P f Extern.Atomic.storeT) : AnsOK P G f storeX := by
  intro args h v h' e ρ w args' s g fr r
  obtain ⟨fn, x1, x2, x3, x4, x5⟩ := x.ok
  unfold storeX at e
  split at e
  · rename_i b o k n
    obtain ⟨a, c, rfl, r1, r2⟩ := LRel2 r
    obtain ⟨ad, rfl, p⟩ := inv_ptr r1
    obtain rfl := inv_int r2
    split at e
    · rename_i el cs opn hb
      split at e
      · rename_i ho
        simp only [Option.some.injEq, Prod.mk.injEq] at e; obtain ⟨rfl, rfl⟩ := e
        obtain ⟨u, c1, c2, c3⟩ := cell_at s hb p (List.getElem?_eq_getElem ho)
        exact callsTo_value (run_call_store x1 x2 x3 x4 x5 c1 (c3 rfl)) ⟨ρ, step_cell s hb p ho (by simp [VRel]) rfl, by simp [VRel, LRel]⟩
      · cases e
    · cases e
  · cases e

theorem casX_ok {f : Nat} {k : IntKind} (x : Extn P f (Extern.Atomic.casT (.int k))) : AnsOK P G f (casX k) := by
  intro args h v h' e ρ w args' s g fr r
  obtain ⟨fn, x1, x2, x3, x4, x5⟩ := x.ok
  unfold casX at e
  split at e
  · rename_i b o k1 y1 k2 y2
    obtain ⟨a, c, d, rfl, r1, r2, r3⟩ := LRel3 r
    obtain ⟨ad, rfl, p⟩ := inv_ptr r1
    obtain rfl := inv_int r2
    obtain rfl := inv_int r3
    split at e
    · rename_i el cs opn hb
      split at e
      · rename_i k3 u hv
        split at e
        · rename_i hk
          obtain ⟨rfl, rfl, rfl⟩ := hk
          obtain ⟨u', c1, c2, c3⟩ := cell_at s hb p hv
          obtain rfl := inv_int c2
          split at e
          · rename_i hu; subst hu
            simp only [Option.some.injEq, Prod.mk.injEq] at e; obtain ⟨rfl, rfl⟩ := e
            exact callsTo_value (run_call_cas_hit x1 x2 x3 x4 _ x5 c1 (c3 rfl)) ⟨ρ, step_cell s hb p (List.getElem?_eq_some_iff.1 hv).1 (by simp [VRel]) rfl, by simp [VRel]⟩
          · rename_i hu
            simp only [Option.some.injEq, Prod.mk.injEq] at e; obtain ⟨rfl, rfl⟩ := e
            exact callsTo_value (run_call_cas_miss x1 x2 x3 x4 _ x5 c1 (c3 rfl) hu) ⟨ρ, Step.refl s, by simp [VRel]⟩
        · cases e
      · cases e
    · cases e
  · cases e

theorem addX_ok {f : Nat} {k : IntKind} (x : Extn P f (Extern.Atomic.update (Op.intArith .add) k true)) : AnsOK P G f (addX k) := by
  intro args h v h' e ρ w args' s g fr r
  obtain ⟨fn, x1, x2, x3, x4, x5⟩ := x.ok
  unfold addX at e
  split at e
  · rename_i b o k1 y
    obtain ⟨a, c, rfl, r1, r2⟩ := LRel2 r
    obtain ⟨ad, rfl, p⟩ := inv_ptr r1
    obtain rfl := inv_int r2
    split at e
    · rename_i el cs opn hb
      split at e
      · rename_i k2 u hv
        split at e
        · rename_i hk
          obtain ⟨rfl, rfl⟩ := hk
          obtain ⟨u', c1, c2, c3⟩ := cell_at s hb p hv
          obtain rfl := inv_int c2
          simp only [Option.some.injEq, Prod.mk.injEq] at e; obtain ⟨rfl, rfl⟩ := e
          have hs : (Op.intArith .add k2 u y).run P w = .ok (.int k2 (k2.wrap (u + y))) w := by simp [Op.intArith]
          exact callsTo_value (run_call_add x1 x2 x3 x4 _ x5 c1 (c3 rfl) hs) ⟨ρ, step_cell s hb p (List.getElem?_eq_some_iff.1 hv).1 (by simp [VRel]) rfl, by simp [VRel]⟩
        · cases e
      · cases e
    · cases e
  · cases e

theorem mark0X_ok {f : Nat} {m : Mark} (x : Extn P f (fun _ => do mark m; pure Extern.Race.none_)) : AnsOK P G f mark0X := by
  intro args h v h' e ρ w args' s g fr r
  obtain ⟨fn, x1, x2, x3, x4, x5⟩ := x.ok
  unfold mark0X at e
  split at e
  · simp only [Option.some.injEq, Prod.mk.injEq] at e; obtain ⟨rfl, rfl⟩ := e
    have : args' = #[] := by
      obtain ⟨l⟩ := args'
      cases l with
      | nil => rfl
      | cons _ _ => simp [LRel] at r
    subst this
    exact callsTo_value (run_call_mark0 x1 x2 x3 x4 m x5 w) ⟨ρ, Step.refl s, by simp [VRel, LRel]⟩
  · cases e

theorem markX_ok {f : Nat} {m : Addr → Mark} (x : Extn P f (Extern.Race.marked m)) : AnsOK P G f markX := by
  intro args h v h' e ρ w args' s g fr r
  obtain ⟨fn, x1, x2, x3, x4, x5⟩ := x.ok
  unfold markX at e
  split at e
  · simp only [Option.some.injEq, Prod.mk.injEq] at e; obtain ⟨rfl, rfl⟩ := e
    obtain ⟨a, rfl, r1⟩ := LRel1 r
    obtain ⟨ad, rfl, p⟩ := inv_ptr r1
    exact callsTo_value (run_call_marked x1 x2 x3 x4 m x5 ad w) ⟨ρ, Step.refl s, by simp [VRel, LRel]⟩
  · cases e

theorem loadX_n (k : IntKind) : AnsN (loadX k) := fun args h v h' e => by
  unfold loadX at e
  repeat' (first | (cases e; done) | split at e)
  all_goals (cases e; exact Nat.le_refl _)
theorem storeX_n : AnsN storeX := fun args h v h' e => by
  unfold storeX at e
  repeat' (first | (cases e; done) | split at e)
  all_goals (cases e; exact Nat.le_refl _)
theorem casX_n (k : IntKind) : AnsN (casX k) := fun args h v h' e => by
  unfold casX at e
  repeat' (first | (cases e; done) | split at e)
  all_goals (cases e; exact Nat.le_refl _)
theorem addX_n (k : IntKind) : AnsN (addX k) := fun args h v h' e => by
  unfold addX at e
  repeat' (first | (cases e; done) | split at e)
  all_goals (cases e; exact Nat.le_refl _)
theorem mark0X_n : AnsN mark0X := fun args h v h' e => by
  unfold mark0X at e
  repeat' (first | (cases e; done) | split at e)
  all_goals (cases e; exact Nat.le_refl _)
theorem markX_n : AnsN markX := fun args h v h' e => by
  unfold markX at e
  repeat' (first | (cases e; done) | split at e)
  all_goals (cases e; exact Nat.le_refl _)

/-- The functions that answer for themselves, by a list. -/
def extOf : List (Nat × (List V → H → Option (V × H))) → Nat → Option (List V → H → Option (V × H))
  | [], _ => none
  | (f, g) :: l, x => bif Nat.beq x f then some g else extOf l x

theorem extOf_ok : ∀ {l : List (Nat × (List V → H → Option (V × H)))}, (∀ y ∈ l, AnsOK P G y.1 y.2) → ExtOK P G (extOf l)
  | [], _, f, g, e => by simp [extOf] at e
  | (f', g') :: l, a, f, g, e => by
    simp only [extOf] at e
    cases hb : Nat.beq f f' with
    | true =>
      rw [hb] at e
      simp only [cond_true, Option.some.injEq] at e; subst e
      have := Nat.eq_of_beq_eq_true hb; subst this
      exact a (f, g') (by simp)
    | false =>
      rw [hb] at e
      exact extOf_ok (fun y hy => a y (by simp [hy])) f g e

theorem extOf_n : ∀ {l : List (Nat × (List V → H → Option (V × H)))}, (∀ y ∈ l, AnsN y.2) → ExtN (extOf l)
  | [], _, f, g, e => by simp [extOf] at e
  | (f', g') :: l, a, f, g, e => by
    simp only [extOf] at e
    cases hb : Nat.beq f f' with
    | true =>
      rw [hb] at e
      simp only [cond_true, Option.some.injEq] at e; subst e
      exact a (f', g') (by simp)
    | false =>
      rw [hb] at e
      exact extOf_n (fun y hy => a y (by simp [hy])) f g e

end
end Go.Proofs.YtgihdlhoaimlpaaGreatDoor.AM
