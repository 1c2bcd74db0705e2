/- The abstract machine: the same evaluator, laid so that the kernel runs it quickly: steps, bodies, calls. -/
import Derived.Test.YtgihdlhoaimlpaaGreatDoorAMzc
namespace Go.Proofs.YtgihdlhoaimlpaaGreatDoor.AM
set_option autoImplicit false
set_option linter.unusedSimpArgs false
set_option linter.unusedVariables false
noncomputable section

structure Stp where
  run : St → Option St

/-- A cell that is no aggregate. -/
def oneC {α : Type} (v : V) (f g : α) : α := V.casesOn (motive_1 := fun _ => α) v (fun _ _ => f) (fun _ => f) (fun _ => f) (fun _ _ => f) f (fun _ _ _ _ _ => f) f (fun _ => f) f (fun _ _ _ => f) f (fun _ _ => f) f (fun _ => g) (fun _ => g) f (fun _ _ _ => f)

theorem oneC_eq {α : Type} (v : V) (f g : α) : oneC v f g = if v.one then f else g := by cases v <;> rfl
theorem cells_one {v : V} (h : v.one = true) : v.cells = [v] := by cases v <;> first | rfl | simp [V.one] at h

def storeF (P : Program) (t : Nat) : H → V → V → Option H := match szOf P t with
  | some 1 => fun h p v => oneC v (onPtr p (fun b o => obnd (getP (pth b) h.t) fun k => onRow k (fun e cs opn ro => bif ro then none else obnd (setL v o cs) fun cs' => some ⟨setP (pth b) (some (.row e cs' opn false)) h.t, h.n⟩) none) none) (storeV P h t p v)
  | _ => fun h p v => storeV P h t p v

theorem storeF_eq (P : Program) (t : Nat) (h : H) (p v : V) : storeF P t h p v = storeV P h t p v := by
  by_cases hs : szOf P t = some 1
  · have : storeF P t h p v = oneC v (onPtr p (fun b o => obnd (getP (pth b) h.t) fun k => onRow k (fun e cs opn ro => bif ro then none else obnd (setL v o cs) fun cs' => some ⟨setP (pth b) (some (.row e cs' opn false)) h.t, h.n⟩) none) none) (storeV P h t p v) := by
      simp only [storeF, hs]
    rw [this, oneC_eq]
    split
    · rename_i hv
      cases p <;> try rfl
      rename_i b o
      simp only [onPtr, storeV, H_get]
      cases h.get b with
      | none => rfl
      | some k =>
        cases k <;> try rfl
        rename_i e cs opn ro
        simp only [obnd_some, onRow]
        cases ro with
        | true => rfl
        | false =>
          simp only [cond_false, hs, cells_one hv, setL_eq]
          by_cases ho : o + 1 ≤ cs.length
          · simp [ho, hv, H.put, set_pth]
          · simp [ho]
    · rfl
  · have : storeF P t = fun h p v => storeV P h t p v := by
      unfold storeF
      split
      · rename_i h1; exact absurd h1 hs
      · rfl
    rw [this]

structure OpL where
  run : T V → Option (List V)

def opsF (G : Nat) : List Operand → OpL
  | [] => ⟨fun _ => some []⟩
  | x :: l => ⟨fun env => obnd ((opF G x).run env) fun v => obnd ((opsF G l).run env) fun m => some (v :: m)⟩

theorem opsF_eq (G : Nat) (env : T V) : ∀ l : List Operand, (opsF G l).run env = opL G env l
  | [] => rfl
  | x :: l => by
    simp only [opsF, opL, opF_eq, opsF_eq G env l]
    cases opV G env x <;> cases opL G env l <;> rfl

structure Fc where
  run : List V → H → Option (V × H)

def putS (nt : Nat) (dst : Option Nat) : St → V → H → List (Nat × List V) → Option St := fun s v h ds => obnd ((putF nt dst).run s.env v) fun e => some ⟨e, h, ds⟩

def callS (G nt : Nat) (fc : Nat → Fc) (o : Oper) (c : Call) (dflt : Stp) : Stp := match c.callee with
  | .value (.func f) => ⟨fun s => obnd ((opsF G c.args.toList).run s.env) fun l => obnd ((fc f).run l s.h) fun r => Prod.rec (fun v h => putS nt o.dst s v h s.ds) r⟩
  | _ => dflt

/-- What an operation that was not done leaves. -/
def onUndef {α : Type} (v : V) (f g : α) : α := V.casesOn (motive_1 := fun _ => α) v (fun _ _ => g) (fun _ => g) (fun _ => g) (fun _ _ => g) g (fun _ _ _ _ _ => g) g (fun _ => g) g (fun _ _ _ => g) g (fun _ _ => g) g (fun _ => g) (fun l => List.rec f (fun _ _ _ => g) l) g (fun _ _ _ => g)

/-- What is done when the guard lets it. -/
def doF (P : Program) (G nt : Nat) (fc : Nat → Fc) (ops : Array Oper) (o : Oper) : Stp :=
  let call : CallF := fun f => (fc f).run
  match (kindOf P o).1 with
  | 0 => ⟨fun s => obnd ((rdF P G o).run s.h s.env) fun v => putS nt o.dst s v s.h s.ds⟩
  | 1 => ⟨fun s => obnd (alOp P G s.h s.env o) fun r => Prod.rec (fun v h => putS nt o.dst s v h s.ds) r⟩
  | _ => (match o.op with
    | .store t a x => ⟨fun s => obnd ((opF G a).run s.env) fun p => obnd ((opF G x).run s.env) fun v => obnd (storeF P t s.h p v) fun h => putS nt o.dst s (.tup []) h s.ds⟩
    | .call c => callS G nt fc o c ⟨fun s => obnd (mvOp P G call s o) fun r => Prod.rec (fun v r => Prod.rec (fun h ds => putS nt o.dst s v h ds) r) r⟩
    | _ => ⟨fun s => obnd (mvOp P G call s o) fun r => Prod.rec (fun v r => Prod.rec (fun h ds => putS nt o.dst s v h ds) r) r⟩)

def stepF (P : Program) (G nt : Nat) (fc : Nat → Fc) (ops : Array Oper) (o : Oper) : Stp := match o.guard with
  | none => doF P G nt fc ops o
  | some (j, want) => (match (ops[j]?).bind (·.dst) with
    | some d => ⟨fun s => obnd (getP (pth d) s.env) fun g => onBool g (Bool.rec (putS nt o.dst s (.tup []) s.h s.ds) ((doF P G nt fc ops o).run s) want) (Bool.rec ((doF P G nt fc ops o).run s) (putS nt o.dst s (.tup []) s.h s.ds) want) (onUndef g (putS nt o.dst s (.tup []) s.h s.ds) none)⟩
    | none => ⟨fun _ => none⟩)

theorem putS_eq (nt : Nat) (dst : Option Nat) (s : St) (v : V) (h : H) (ds : List (Nat × List V)) : putS nt dst s v h ds = (putD nt s.env dst v).map fun e => ⟨e, h, ds⟩ := by
  unfold putS; rw [putF_eq]; cases putD nt s.env dst v <;> rfl

theorem callS_eq {P : Program} {G nt : Nat} {fc : Nat → Fc} {o : Oper} {c : Call} {dflt : Stp} {s : St} (ho : o.op = .call c)
    (hd : dflt.run s = (match mvOp P G (fun f => (fc f).run) s o with | some (v, h, ds) => (putD nt s.env o.dst v).map fun e => { env := e, h := h, ds := ds } | none => none)) :
    (callS G nt fc o c dflt).run s = (match mvOp P G (fun f => (fc f).run) s o with | some (v, h, ds) => (putD nt s.env o.dst v).map fun e => { env := e, h := h, ds := ds } | none => none) := by
  unfold callS
  split
  · rename_i f hc
    simp only [opsF_eq]
    have hcal : mvOp P G (fun f => (fc f).run) s o = (match opL G s.env c.args.toList with | some l => ((fc f).run l s.h).map fun r => (r.1, r.2, s.ds) | none => none) := by
      simp only [mvOp, ho, hc, calleeV]
      cases opL G s.env c.args.toList with
      | none => rfl
      | some l => simp [opV]
    rw [hcal]
    cases opL G s.env c.args.toList with
    | none => rfl
    | some l =>
      simp only [obnd_some]
      cases (fc f).run l s.h with
      | none => rfl
      | some r => obtain ⟨v, h⟩ := r; simp only [obnd_some, Option.map_some, putS_eq]
  · exact hd

theorem doF_eq (P : Program) (G nt : Nat) (fc : Nat → Fc) (ops : Array Oper) (o : Oper) (s : St) : (doF P G nt fc ops o).run s = (match kindOf P o with
    | (0, _) => (match rdAll P G s.h s.env o with
      | some v => (putD nt s.env o.dst v).map fun e => { s with env := e }
      | none => none)
    | (1, _) => (match alOp P G s.h s.env o with
      | some (v, h) => (putD nt s.env o.dst v).map fun e => { s with env := e, h := h }
      | none => none)
    | _ => (match mvOp P G (fun f => (fc f).run) s o with
      | some (v, h, ds) => (putD nt s.env o.dst v).map fun e => { env := e, h := h, ds := ds }
      | none => none)) := by
  have dflt : ∀ s : St, (obnd (mvOp P G (fun f => (fc f).run) s o) fun r => Prod.rec (fun v r => Prod.rec (fun h ds => putS nt o.dst s v h ds) r) r) =
      (match mvOp P G (fun f => (fc f).run) s o with | some (v, h, ds) => (putD nt s.env o.dst v).map fun e => ({ env := e, h := h, ds := ds } : St) | none => none) := fun s => by
    cases mvOp P G (fun f => (fc f).run) s o with
    | none => rfl
    | some r => obtain ⟨v, h, ds⟩ := r; exact putS_eq ..
  unfold doF
  cases hk : kindOf P o with
  | mk k b =>
    simp only
    match k with
    | 0 =>
      simp only [rdF_eq]
      cases rdAll P G s.h s.env o with
      | none => rfl
      | some v => exact putS_eq ..
    | 1 =>
      simp only
      cases alOp P G s.h s.env o with
      | none => rfl
      | some r => obtain ⟨v, h⟩ := r; exact putS_eq ..
    | k + 2 =>
      simp only
      split
      · rename_i t a x ho
        simp only [opF_eq, storeF_eq, mvOp, ho]
        cases opV G s.env a <;> cases opV G s.env x <;> try rfl
        rename_i p v
        simp only [obnd_some]
        cases storeV P s.h t p v with
        | none => rfl
        | some h => simp only [obnd_some, Option.map_some, putS_eq]
      · rename_i c ho
        exact callS_eq ho (dflt s)
      · exact dflt s

theorem stepF_eq (P : Program) (G nt : Nat) (fc : Nat → Fc) (ops : Array Oper) (o : Oper) (s : St) : (stepF P G nt fc ops o).run s = stepV P G nt (fun f => (fc f).run) ops s o := by
  unfold stepF stepV guardV
  cases hg : o.guard with
  | none =>
    simp only [doF_eq]
    generalize kindOf P o = kb
    obtain ⟨k, b⟩ := kb
    match k with
    | 0 => rfl
    | 1 => rfl
    | k + 2 => rfl
  | some jw =>
    obtain ⟨j, want⟩ := jw
    simp only
    cases hd : (ops[j]?).bind (·.dst) with
    | none => rfl
    | some d =>
      simp only [get_pth]
      cases s.env.get d with
      | none => rfl
      | some g =>
        simp only [obnd_some]
        cases g <;> first
          | (rename_i b; cases b <;> cases want <;> first | exact doF_eq .. | exact putS_eq ..)
          | rfl
          | (rename_i l; cases l <;> first | exact putS_eq .. | rfl)

def stepsF (P : Program) (G nt : Nat) (fc : Nat → Fc) (ops : Array Oper) (l : List Oper) : Stp := List.rec (motive := fun _ => Stp) ⟨some⟩ (fun o _ ih => ⟨fun s => obnd ((stepF P G nt fc ops o).run s) ih.run⟩) l

theorem stepsF_eq (P : Program) (G nt : Nat) (fc : Nat → Fc) (ops : Array Oper) : ∀ (l : List Oper) (s : St), (stepsF P G nt fc ops l).run s = stepsV P G nt (fun f => (fc f).run) ops l s
  | [], s => rfl
  | o :: l, s => by
    have : (stepsF P G nt fc ops (o :: l)).run s = obnd ((stepF P G nt fc ops o).run s) (stepsF P G nt fc ops l).run := rfl
    rw [this, stepF_eq, stepsV]
    cases stepV P G nt (fun f => (fc f).run) ops s o with
    | none => rfl
    | some s' => exact stepsF_eq P G nt fc ops l s'

abbrev R := Option (X × St)

def onX (r : R) (k : St → R) : R := Option.rec none (fun p => Prod.rec (fun x s => X.rec (k s) (some (.ret, s)) (fun id => some (.exit id, s)) x) p) r
def onExit (id : Nat) (r : R) : R := Option.rec none (fun p => Prod.rec (fun x s => X.rec (some (.normal, s)) (some (.ret, s)) (fun i => bif Nat.beq i id then some (.normal, s) else some (.exit i, s)) x) p) r

structure Cl where
  run : St → R

def loopF (b : Cl) (n : Nat) : St → R := Nat.rec (motive := fun _ => St → R) (fun _ => none) (fun _ ih s => onX (b.run s) ih) n

def drawF (P : Program) (G nt : Nat) (fc : Nat → Fc) (ops : Array Oper) : Cl := ⟨fun s => obnd (drawV P G nt (fun f => (fc f).run) ops s) fun s' => some (.normal, s')⟩

def evS (P : Program) (G nt : Nat) (fc : Nat → Fc) (lf : Nat) (c : Code) : Cl := Code.rec (motive := fun _ => Cl)
  ⟨fun s => some (.normal, s)⟩
  (fun _ ops draw => bif draw then drawF P G nt fc ops else ⟨fun s => obnd ((stepsF P G nt fc ops ops.toList).run s) fun s' => some (.normal, s')⟩)
  (fun _ _ a b => ⟨fun s => onX (a.run s) b.run⟩)
  (fun c _ _ a b => ⟨fun s => obnd ((opF G c).run s.env) fun v => onBool v (a.run s) (b.run s) none⟩)
  (fun id _ a => ⟨fun s => onExit id (a.run s)⟩)
  (fun _ a => ⟨loopF a lf⟩)
  (fun _ _ _ _ _ _ => ⟨fun _ => none⟩)
  (fun id => ⟨fun s => some (.exit id, s)⟩)
  (fun _ a => a)
  (fun _ => ⟨fun s => some (.normal, s)⟩)
  (fun _ => ⟨fun _ => none⟩)
  ⟨fun s => some (.ret, s)⟩
  (fun _ => ⟨fun _ => none⟩) c

theorem onX_eq (r : R) (k : St → R) : onX r k = (match r with | some (.normal, s') => k s' | r => r) := by
  cases r with
  | none => rfl
  | some p => obtain ⟨x, s⟩ := p; cases x <;> rfl

theorem loopF_eq {b : Cl} {body : St → Option (X × St)} (h : ∀ s, b.run s = body s) : ∀ (n : Nat) (s : St), loopF b n s = loopV body n s
  | 0, s => rfl
  | n + 1, s => by
    have : loopF b (n + 1) s = onX (b.run s) (loopF b n) := rfl
    rw [this, onX_eq, h s, loopV]
    cases body s with
    | none => rfl
    | some p => obtain ⟨x, s'⟩ := p; cases x <;> first | rfl | exact loopF_eq h n s'

theorem evS_eq (P : Program) (G nt : Nat) (fc : Nat → Fc) (lf : Nat) : ∀ (c : Code) (s : St), (evS P G nt fc lf c).run s = evC P G nt (fun f => (fc f).run) lf c s
  | .skip, s => rfl
  | .region _ ops draw, s => by
    cases draw with
    | true =>
      show obnd (drawV P G nt (fun f => (fc f).run) ops s) (fun s' => some (X.normal, s')) = _
      simp only [evC, if_true]
      cases drawV P G nt (fun f => (fc f).run) ops s <;> rfl
    | false =>
      show obnd ((stepsF P G nt fc ops ops.toList).run s) (fun s' => some (X.normal, s')) = _
      simp only [evC, stepsF_eq, Bool.false_eq_true, if_false]
      cases stepsV P G nt (fun f => (fc f).run) ops ops.toList s <;> rfl
  | .seq a b, s => by
    show onX ((evS P G nt fc lf a).run s) (evS P G nt fc lf b).run = _
    rw [onX_eq, evS_eq P G nt fc lf a s, evC]
    cases evC P G nt (fun f => (fc f).run) lf a s with
    | none => rfl
    | some p => obtain ⟨x, s'⟩ := p; cases x <;> first | rfl | exact evS_eq P G nt fc lf b s'
  | .cond c a b, s => by
    show obnd ((opF G c).run s.env) (fun v => onBool v ((evS P G nt fc lf a).run s) ((evS P G nt fc lf b).run s) none) = _
    rw [opF_eq, evC, evS_eq P G nt fc lf a s, evS_eq P G nt fc lf b s]
    cases opV G s.env c with
    | none => rfl
    | some v => cases v <;> first | rfl | (rename_i b; cases b <;> rfl)
  | .block id a, s => by
    show onExit id ((evS P G nt fc lf a).run s) = _
    rw [evS_eq P G nt fc lf a s, evC]
    cases evC P G nt (fun f => (fc f).run) lf a s with
    | none => rfl
    | some p =>
      obtain ⟨x, s'⟩ := p
      cases x with
      | exit i =>
        show (bif Nat.beq i id then some (X.normal, s') else some (X.exit i, s')) = _
        by_cases h : i = id
        · rw [nbt h]; simp [h]
        · rw [nbf h]; simp [h]
      | _ => rfl
  | .loop a, s => by
    show loopF (evS P G nt fc lf a) lf s = _
    rw [evC]
    exact loopF_eq (fun s => evS_eq P G nt fc lf a s) lf s
  | .exit id, s => rfl
  | .scope a, s => by
    show (evS P G nt fc lf a).run s = _
    rw [evC]; exact evS_eq P G nt fc lf a s
  | .ret, s => rfl
  | .label _, s => rfl
  | .goto _, s => rfl
  | .refuse _, s => rfl
  | .rangeFunc _ _ _ _, s => rfl

/-- A call. -/
def bodyF (P : Program) (G : Nat) (fc : Nat → Fc) (lf : Nat) (fn : Func) (c : Code) : Fc := ⟨fun args h => bif Nat.ble args.length fn.ntmps then
  Option.rec none (fun p => Prod.rec (fun x s => X.rec
      (Option.rec none (fun h' => obnd (resultsV P h' s.env fn) fun v => some (v, h')) (deferV P G (fun f => (fc f).run) lf s.ds s.h))
      (Option.rec none (fun h' => obnd (resultsV P h' s.env fn) fun v => some (v, h')) (deferV P G (fun f => (fc f).run) lf s.ds s.h))
      (fun _ => none) x) p) ((evS P G fn.ntmps fc lf c).run ⟨envOf args 0 .nil, h, []⟩) else none⟩

def fcl (P : Program) (G : Nat) (ext : Nat → Option (List V → H → Option (V × H))) (n : Nat) : Nat → Fc := Nat.rec (motive := fun _ => Nat → Fc) (fun _ => ⟨fun _ _ => none⟩) (fun n ih f => match ext f with
  | some g => ⟨g⟩
  | none => (match P.funcs[f]? with
    | some fn => (match fn.body with
      | some c => bodyF P G ih n fn c
      | none => ⟨fun _ _ => none⟩)
    | none => ⟨fun _ _ => none⟩)) n

theorem fcl_eq (P : Program) (G : Nat) (ext : Nat → Option (List V → H → Option (V × H))) : ∀ (n f : Nat) (args : List V) (h : H), (fcl P G ext n f).run args h = evF P G ext n f args h
  | 0, f, args, h => rfl
  | n + 1, f, args, h => by
    have ih : (fun f => (fcl P G ext n f).run) = evF P G ext n := by funext f args h; exact fcl_eq P G ext n f args h
    simp only [evF]
    have e : fcl P G ext (n + 1) f = (match ext f with
      | some g => ⟨g⟩
      | none => (match P.funcs[f]? with
        | some fn => (match fn.body with
          | some c => bodyF P G (fcl P G ext n) n fn c
          | none => ⟨fun _ _ => none⟩)
        | none => ⟨fun _ _ => none⟩)) := rfl
    rw [e]
    cases hx : ext f with
    | some g => rfl
    | none =>
      simp only
      cases hf : P.funcs[f]? with
      | none => rfl
      | some fn =>
        simp only [bodyV]
        cases hb : fn.body with
        | none => rfl
        | some c =>
          simp only [bodyF, evS_eq, ih]
          by_cases hl : args.length ≤ fn.ntmps
          · rw [Nat.ble_eq_true_of_le hl, if_pos hl]
            simp only [cond_true]
            cases evC P G fn.ntmps (evF P G ext n) n c ⟨envOf args 0 .nil, h, []⟩ with
            | none => rfl
            | some p =>
              obtain ⟨x, s⟩ := p
              cases x with
              | exit i => rfl
              | normal =>
                simp only
                cases deferV P G (evF P G ext n) n s.ds s.h with
                | none => rfl
                | some h' =>
                  simp only
                  cases resultsV P h' s.env fn <;> rfl
              | ret =>
                simp only
                cases deferV P G (evF P G ext n) n s.ds s.h with
                | none => rfl
                | some h' =>
                  simp only
                  cases resultsV P h' s.env fn <;> rfl
          · have : Nat.ble args.length fn.ntmps = false := by
              cases hb2 : Nat.ble args.length fn.ntmps with
              | false => rfl
              | true => exact absurd (Nat.le_of_ble_eq_true hb2) hl
            rw [this, if_neg hl]; rfl

end
end Go.Proofs.YtgihdlhoaimlpaaGreatDoor.AM
