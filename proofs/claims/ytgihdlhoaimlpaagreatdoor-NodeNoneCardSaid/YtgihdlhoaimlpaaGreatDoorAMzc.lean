/- The abstract machine: the same evaluator, laid so that the kernel runs it quickly: operations. -/
import Derived.Test.YtgihdlhoaimlpaaGreatDoorAMzb
namespace Go.Proofs.YtgihdlhoaimlpaaGreatDoor.AM
set_option autoImplicit false
set_option linter.unusedSimpArgs false
set_option linter.unusedVariables false
noncomputable section

def onInt {α : Type} (a : V) (f : IntKind → Int → α) (g : α) : α := V.casesOn (motive_1 := fun _ => α) a f (fun _ => g) (fun _ => g) (fun _ _ => g) g (fun _ _ _ _ _ => g) g (fun _ => g) g (fun _ _ _ => g) g (fun _ _ => g) g (fun _ => g) (fun _ => g) g (fun _ _ _ => g)
def onBool {α : Type} (a : V) (x y g : α) : α := V.casesOn (motive_1 := fun _ => α) a (fun _ _ => g) (fun b => Bool.rec y x b) (fun _ => g) (fun _ _ => g) g (fun _ _ _ _ _ => g) g (fun _ => g) g (fun _ _ _ => g) g (fun _ _ => g) g (fun _ => g) (fun _ => g) g (fun _ _ _ => g)
def onPtr {α : Type} (a : V) (f : Nat → Nat → α) (g : α) : α := V.casesOn (motive_1 := fun _ => α) a (fun _ _ => g) (fun _ => g) (fun _ => g) f g (fun _ _ _ _ _ => g) g (fun _ => g) g (fun _ _ _ => g) g (fun _ _ => g) g (fun _ => g) (fun _ => g) g (fun _ _ _ => g)
def onSl {α : Type} (a : V) (f : Nat → Nat → Nat → Nat → Nat → α) (g : α) : α := V.casesOn (motive_1 := fun _ => α) a (fun _ _ => g) (fun _ => g) (fun _ => g) (fun _ _ => g) g f g (fun _ => g) g (fun _ _ _ => g) g (fun _ _ => g) g (fun _ => g) (fun _ => g) g (fun _ _ _ => g)
def onRow {α : Type} (b : Blk) (f : Nat → List V → Bool → Bool → α) (g : α) : α := Blk.casesOn (motive := fun _ => α) b f (fun _ _ => g) (fun _ _ => g) (fun _ _ _ _ => g)

def nthL (o : Nat) : List V → Option V := Nat.rec (motive := fun _ => List V → Option V) (fun l => List.rec none (fun v _ _ => some v) l) (fun _ ih l => List.rec none (fun _ r _ => ih r) l) o
theorem nthL_eq : ∀ (o : Nat) (l : List V), nthL o l = l[o]?
  | 0, [] => rfl
  | 0, v :: l => rfl
  | o + 1, [] => rfl
  | o + 1, v :: l => by
    have : nthL (o + 1) (v :: l) = nthL o l := rfl
    rw [this, nthL_eq o l]; rfl

def setL (v : V) (o : Nat) : List V → Option (List V) := Nat.rec (motive := fun _ => List V → Option (List V)) (fun l => List.rec none (fun _ r _ => some (v :: r)) l) (fun _ ih l => List.rec none (fun x r _ => obnd (ih r) fun r' => some (x :: r')) l) o
theorem setL_eq (v : V) : ∀ (o : Nat) (l : List V), setL v o l = if o + 1 ≤ l.length then some (put l o [v]) else none
  | 0, [] => rfl
  | 0, x :: l => by
    have : setL v 0 (x :: l) = some (v :: l) := rfl
    rw [this, if_pos (by simp)]; simp [put]
  | o + 1, [] => rfl
  | o + 1, x :: l => by
    have : setL v (o + 1) (x :: l) = obnd (setL v o l) fun r' => some (x :: r') := rfl
    rw [this, setL_eq v o l]
    by_cases h : o + 1 ≤ l.length
    · rw [if_pos h, if_pos (by simp; omega)]; simp [put]
    · rw [if_neg h, if_neg (by simp; omega)]; rfl

structure Opd where
  run : T V → Option V

def opF (G : Nat) (x : Operand) : Opd := match x with
  | .tmp t => ⟨getP (pth t)⟩
  | .const v => ⟨fun _ => V.of v⟩
  | .global g => ⟨fun _ => bif Nat.blt g G then some (.ptr g 0) else none⟩
  | .func f => ⟨fun _ => some (.fn f [] [])⟩

theorem opF_eq (G : Nat) (x : Operand) (env : T V) : (opF G x).run env = opV G env x := by
  cases x <;> simp [opF, opV, get_pth]

structure Rd where
  run : H → T V → Option V

structure Bin where
  run : V → V → Option V

def binS (op : BinOp) : IntKind → IntKind → Int → Int → Option V := match op with
  | .shl => fun k _ x y => shF .shl k x y
  | .shr => fun k _ x y => shF .shr k x y
  | op => fun k k' x y => bif Nat.beq (kIdx k) (kIdx k') then intF op k x y else none

def binF (P : Program) (c : Bool) (op : BinOp) (t : Nat) : Bin := ⟨fun a b => onInt a (fun k x => onInt b (fun k' y => binS op k k' x y) (binV P c op t a b)) (binV P c op t a b)⟩

theorem binF_eq (P : Program) (c : Bool) (op : BinOp) (t : Nat) (a b : V) : (binF P c op t).run a b = binV P c op t a b := by
  cases a <;> try rfl
  cases b <;> try rfl
  rename_i k x k' y
  show binS op k k' x y = _
  cases op <;> simp only [binS, binV, shF_eq, intF_eq, kIdx_eq]
  all_goals (by_cases h : k = k' <;> simp [h])

def convF (P : Program) (G : Nat) (s d : Nat) (x : Operand) (o : Oper) : Rd := match P.underlying s, P.underlying d with
  | some _, some (.int k) => ⟨fun h env => obnd ((opF G x).run env) fun a => onInt a (fun _ n => some (.int k (wrapF k n))) (rdAll P G h env o)⟩
  | _, _ => ⟨fun h env => rdAll P G h env o⟩

def fldF (P : Program) (G : Nat) (s : Nat) (x : Operand) (i : Nat) : Rd := match fieldsOf P s with
  | some fs => (match fs[i]? with
    | some f => (match szOf P f.type with
      | some n => if n = 0 then ⟨fun _ _ => none⟩ else (match f.offset with
        | off => ⟨fun _ env => obnd ((opF G x).run env) fun a => onPtr a (fun b k => some (.ptr b (k + off))) none⟩)
      | none => ⟨fun _ _ => none⟩)
    | none => ⟨fun _ _ => none⟩)
  | none => ⟨fun _ _ => none⟩

def atN {α : Type} (j : Int) (n : Nat) (f : Nat → α) (g : α) : α := Int.rec (fun j => bif Nat.blt j n then f j else g) (fun _ => g) j

def ixaF (P : Program) (G : Nat) (t : Nat) (x i : Operand) : Rd := match P.underlying t with
  | some (.array n e) => (match szOf P e with
    | some sz => ⟨fun _ env => obnd ((opF G x).run env) fun a => obnd ((opF G i).run env) fun j => onPtr a (fun b o => onInt j (fun _ j => atN j n (fun j => some (.ptr b (o + j * sz))) none) none) none⟩
    | none => ⟨fun _ _ => none⟩)
  | some (.slice e) => (match szOf P e with
    | some sz' => ⟨fun _ env => obnd ((opF G x).run env) fun a => obnd ((opF G i).run env) fun j => onSl a (fun sz b o l _ => bif Nat.beq sz' sz then onInt j (fun _ j => atN j l (fun j => some (.ptr b (o + j * sz))) none) none else none) none⟩
    | none => ⟨fun _ _ => none⟩)
  | _ => ⟨fun _ _ => none⟩

def loadF (P : Program) (G : Nat) (t : Nat) (x : Operand) : Rd := match aggB P t with
  | some false => ⟨fun h env => obnd ((opF G x).run env) fun a => onPtr a (fun b o => obnd (getP (pth b) h.t) fun k => onRow k (fun _ cs _ _ => nthL o cs) none) none⟩
  | _ => ⟨fun h env => obnd ((opF G x).run env) fun a => loadV P h t a⟩

def rdF (P : Program) (G : Nat) (o : Oper) : Rd := match o.op with
  | .move x | .assign x => ⟨fun _ env => (opF G x).run env⟩
  | .pick c a b => ⟨fun _ env => obnd ((opF G c).run env) fun v => onBool v ((opF G a).run env) ((opF G b).run env) none⟩
  | .binOp op t x y _ => ⟨fun h env => obnd ((opF G x).run env) fun a => obnd ((opF G y).run env) fun b => onInt a (fun _ _ => (binF P (isC x || isC y) op t).run a b) (Option.rec (ptrEqV P h op t a b) some ((binF P (isC x || isC y) op t).run a b))⟩
  | .convert s d x => convF P G s d x o
  | .fieldAddr s x i => fldF P G s x i
  | .indexAddr t x i => ixaF P G t x i
  | .load t x => loadF P G t x
  | .extract x i => ⟨fun _ env => obnd ((opF G x).run env) fun a => match a with
    | .tup l => nthL i l
    | _ => none⟩
  | _ => ⟨fun h env => rdAll P G h env o⟩

theorem H_get (h : H) (b : Nat) : getP (pth b) h.t = h.get b := get_pth b h.t

theorem rdF_eq (P : Program) (G : Nat) (o : Oper) (h : H) (env : T V) : (rdF P G o).run h env = rdAll P G h env o := by
  cases ho : o.op <;> simp only [rdF, ho]
  case move x => simp [rdAll, rdOp, ho, opF_eq]
  case assign x => simp [rdAll, rdOp, ho, opF_eq]
  case pick c a b =>
    simp only [rdAll, rdOp, ho, opF_eq]
    cases opV G env c with
    | none => rfl
    | some v => cases v <;> first | rfl | (rename_i b; cases b <;> rfl)
  case binOp op t x y yt =>
    simp only [rdAll, rdOp, ho, opF_eq, binF_eq]
    cases opV G env x with
    | none => rfl
    | some a =>
      cases opV G env y with
      | none => rfl
      | some b =>
        simp only [obnd_some]
        cases hb : binV P (isC x || isC y) op t a b with
        | some v => cases a <;> rfl
        | none =>
          cases a <;> try rfl
          simp only [onInt]
          unfold ptrEqV
          generalize P.underlying t = z
          rcases z with _ | z
          · rfl
          · cases z <;> rfl
  case convert s d x =>
    unfold convF
    split
    · rename_i k h1 h2
      cases hx : opV G env x with
      | none => simp only [rdAll, rdOp, ho, opF_eq, hx]; rfl
      | some a =>
        simp only [opF_eq, hx, obnd_some]
        cases a <;> try rfl
        simp only [onInt, rdAll, rdOp, ho, hx, convV, h1, h2, wrapF_eq]
    · rfl
  case fieldAddr s x i =>
    simp only [rdAll, rdOp, ho, fldF]
    cases fieldsOf P s with
    | none => rfl
    | some fs =>
      simp only
      cases hf : fs[i]? with
      | none => cases opV G env x with
        | none => rfl
        | some a => cases a <;> simp [hf]
      | some f =>
        simp only
        cases hn : szOf P f.type with
        | none => cases opV G env x with
          | none => rfl
          | some a => cases a <;> simp [hf, hn]
        | some n =>
          simp only
          by_cases h0 : n = 0
          · simp only [h0, if_true]
            cases opV G env x with
            | none => rfl
            | some a => cases a <;> simp [hf, hn, h0]
          · simp only [h0, if_false, opF_eq]
            cases opV G env x with
            | none => rfl
            | some a => cases a <;> simp [hf, hn, h0, onPtr]
  case indexAddr t x i =>
    simp only [rdAll, rdOp, ho, ixaF]
    have at1 : ∀ (j : Int) (n : Nat) (f : Nat → Option V), atN j n f none = if 0 ≤ j ∧ j < n then f j.toNat else none := fun j n f => by
      cases j with
      | ofNat j =>
        show (bif Nat.blt j n then f j else none) = _
        by_cases hj : j < n
        · have : Nat.blt j n = true := Nat.ble_eq_true_of_le hj
          rw [this, if_pos (by constructor <;> simp <;> omega)]; rfl
        · have : Nat.blt j n = false := by
            cases hb : Nat.blt j n with
            | false => rfl
            | true => exact absurd (Nat.le_of_ble_eq_true hb) hj
          rw [this, if_neg (by simp; omega)]; rfl
      | negSucc j => rw [if_neg (by omega)]; rfl
    cases hu : P.underlying t with
    | none => cases opV G env x <;> cases opV G env i <;> simp [idxAddrV, hu]
    | some d =>
      cases d
      case array n e =>
        simp only
        cases hs : szOf P e with
        | none =>
          cases opV G env x <;> cases opV G env i <;> simp [idxAddrV, hu]
          rename_i a b
          cases a <;> cases b <;> simp [hs]
        | some sz =>
          simp only [opF_eq]
          cases opV G env x <;> cases opV G env i <;> simp only [obnd_some, obnd_none]
          rename_i a b
          cases a <;> cases b <;> simp [idxAddrV, hu, hs, onPtr, onInt, at1]
      case slice e =>
        simp only
        cases hs : szOf P e with
        | none =>
          cases opV G env x <;> cases opV G env i <;> simp [idxAddrV, hu]
          rename_i a b
          cases a <;> cases b <;> simp [hs]
        | some sz' =>
          simp only [opF_eq]
          cases opV G env x <;> cases opV G env i <;> simp only [obnd_some, obnd_none]
          rename_i a b
          cases a <;> cases b <;> simp [idxAddrV, hu, hs, onSl, onInt, at1]
          rename_i sz _ _ _ _ _ j
          by_cases hz : sz' = sz
          · subst hz; simp
          · have : (sz' == sz) = false := by simp [hz]
            simp [hz, this]
      all_goals (cases opV G env x <;> cases opV G env i <;> simp [idxAddrV, hu])
  case load t x =>
    simp only [rdAll, rdOp, ho, loadF]
    split
    · rename_i h1
      simp only [opF_eq]
      cases opV G env x with
      | none => rfl
      | some a =>
        cases a <;> try rfl
        simp only [obnd_some, onPtr, loadV, H_get]
        rename_i b k
        cases h.get b with
        | none => rfl
        | some y => cases y <;> simp [onRow, h1, nthL_eq]
    · simp only [opF_eq]
      cases opV G env x <;> rfl
  case extract x i =>
    simp only [rdAll, rdOp, ho, opF_eq]
    cases opV G env x with
    | none => rfl
    | some a => cases a <;> simp [nthL_eq]

structure PutD where
  run : T V → V → Option (T V)

def putF (nt : Nat) (dst : Option Nat) : PutD := match dst with
  | none => ⟨fun env _ => some env⟩
  | some d => bif Nat.blt d nt then ⟨fun env v => some (setP (pth d) (some v) env)⟩ else ⟨fun _ _ => none⟩

theorem putF_eq (nt : Nat) (dst : Option Nat) (env : T V) (v : V) : (putF nt dst).run env v = putD nt env dst v := by
  unfold putF putD
  cases dst with
  | none => rfl
  | some d => cases hb : Nat.blt d nt <;> simp [hb, set_pth]

end
end Go.Proofs.YtgihdlhoaimlpaaGreatDoor.AM
