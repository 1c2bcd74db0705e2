/- The abstract machine: the evaluator. -/
import Derived.Test.YtgihdlhoaimlpaaGreatDoorAMp
namespace Go.Proofs.YtgihdlhoaimlpaaGreatDoor.AM
set_option autoImplicit false
set_option linter.unusedSimpArgs false
set_option linter.unusedVariables false

/-- What is read of maps, beside what is read of cells. -/
def entryV (h : H) (x : V) : Option V := match x with
  | .ptr b 0 => (match h.get b with
    | some (.miter (some m) _ seen stepped) => (match h.get m, seen.getLast? with
      | some (.map es clock), some stamp => if clock = stepped then (match es.find? (fun e => Nat.beq e.2.2 stamp) with
          | some e => some (.tup [e.1, e.2.1])
          | none => none) else none
      | _, _ => none)
    | _ => none)
  | _ => none

def byteL : List V → Option (List Nat)
  | [] => some []
  | .int .u8 n :: l => if 0 ≤ n ∧ n < 256 then (byteL l).map (n.toNat :: ·) else none
  | _ => none

/-- string(b). -/
def bytesStrV (P : Program) (h : H) (s d : Nat) (x : V) : Option V := match elemSl P s, P.underlying d with
  | some e, some .string => (match P.underlying e with
    | some (.int .u8) => (match x with
      | .nils => some (.str [])
      | .sl sz b o l _ => if l = 0 then some (.str []) else if sz = 1 then (match h.get b with
        | some (.row _ cs _ _) => if o + l ≤ cs.length then (byteL ((cs.drop o).take l)).map .str else none
        | _ => none) else none
      | _ => none)
    | _ => none)
  | _, _ => none

/-- unsafe.Pointer(p). -/
def unsafeV (P : Program) (h : H) (s d : Nat) (x : V) : Option V := match P.underlying s, P.underlying d, x with
  | some (.pointer _), some .unsafePointer, .nilp => some .nilp
  | some (.pointer t), some .unsafePointer, .ptr b o => (match h.get b, szOf P t with
    | some (.row _ cs _ _), some n => if n ≠ 0 ∧ o < cs.length then some (.ptr b o) else none
    | _, _ => none)
  | _, _, _ => none

/-- Two pointers into one block. -/
def ptrEqV (P : Program) (h : H) (op : BinOp) (t : Nat) (a b : V) : Option V := match P.underlying t, a, b with
  | some (.pointer el), .ptr b o, .ptr b' o' => (match szOf P el, h.get b with
    | some (_ + 1), some (.row _ _ _ _) => if b = b' then (match op with
        | .eql => some (.bool (Nat.beq o o'))
        | .neq => some (.bool (!(Nat.beq o o')))
        | _ => none) else none
    | _, _ => none)
  | _, _, _ => none

/-- All that leaves the world as it is. -/
def rdAll (P : Program) (G : Nat) (h : H) (env : T V) (o : Oper) : Option V := match o.op with
  | .lookup t m k ok => (match opV G env m, opV G env k with
    | some a, some b => lookupV P h t a b ok
    | _, _ => none)
  | .entry x => (match opV G env x with
    | some a => entryV h a
    | none => none)
  | .convert s d x => (match rdOp P G h env o with
    | some v => some v
    | none => (match opV G env x with
      | some a => (match bytesStrV P h s d a with
        | some v => some v
        | none => unsafeV P h s d a)
      | none => none))
  | .binOp op t x y _ => (match rdOp P G h env o with
    | some v => some v
    | none => (match opV G env x, opV G env y with
      | some a, some b => ptrEqV P h op t a b
      | _, _ => none))
  | _ => rdOp P G h env o

/-- 0: nothing is written; 1: a block is made, and nothing else; 2: more. 'true': memory is read. -/
def kindOf (P : Program) (o : Oper) : Nat × Bool := match o.op with
  | .convert s d _ => (match P.underlying s, P.underlying d with
    | some .string, some (.slice _) => (1, false)
    | some (.slice _), some (.slice _) => (2, false)
    | _, _ => (0, true))
  | .alloc _ | .box .. | .buildSlice .. | .makeSlice .. | .makeMap .. => (1, false)
  | .load .. | .lookup .. | .entry _ => (0, true)
  | .call c => (match c.callee with
    | .builtin .len => (0, true)
    | .builtin .min | .builtin .max => (0, false)
    | _ => (2, false))
  | .store .. | .insert .. | .mapUpdate .. | .mapEntry .. | .entryStore .. | .range .. | .next .. | .defer _ | .go _ | .panic _ | .send .. | .recv .. | .select .. | .makeChan .. | .ready _ | .waits _ => (2, false)
  | _ => (0, false)

def hintOk : Option V → Bool
  | none => true
  | some (.int _ _) => true
  | _ => false

/-- A block is made. -/
def alOp (P : Program) (G : Nat) (h : H) (env : T V) (o : Oper) : Option (V × H) := match o.op with
  | .alloc t => allocV P h t
  | .box t x => (match opV G env x with
    | some v => some (boxV h t v)
    | none => none)
  | .buildSlice t n ps => (match opP G env ps.toList with
    | some l => buildSliceV P h t n l
    | none => none)
  | .makeSlice t l c => (match opV G env l, opV G env c with
    | some a, some b => makeSliceV P h t a b
    | _, _ => none)
  | .convert s d x => (match opV G env x with
    | some a => strBytesV P h s d a
    | none => none)
  | .makeMap t r => (match optV G env r with
    | some x => if (mapTy P t).isSome && hintOk x then some (makeMapV h) else none
    | none => none)
  | _ => none

structure St where
  env : T V
  h : H
  ds : List (Nat × List V)

abbrev CallF := Nat → List V → H → Option (V × H)

/-- Which function a call comes to, and with which arguments. -/
def calleeV (P : Program) (G : Nat) (env : T V) (c : Call) : Option (Nat × List V) := match c.callee, opL G env c.args.toList with
  | .value f, some args => (match opV G env f with
    | some (.fn f first cap) => some (f, first ++ args ++ cap)
    | _ => none)
  | .invoke r name, some args => (match opV G env r with
    | some (.iface t v) => (match P.info? t, P.underlying t with
      | some i, some (.pointer _) => (match i.methods.toList.find? (fun m => m.name == name) with
        | some m => if m.path.isEmpty then (match m.func with
            | some (f, true) => some (f, v :: args)
            | _ => none) else none
        | none => none)
      | _, _ => none)
    | _ => none)
  | _, _ => none

def srcL (h : H) (sz n : Nat) : V → Option (List V)
  | .str s => if sz = 1 then some ((s.take n).map fun x => .int .u8 (Int.ofNat x)) else none
  | .sl sz' b o _ _ => if sz' = sz then (match h.get b with
    | some (.row _ cs _ _) => if o + n * sz ≤ cs.length then some ((cs.drop o).take (n * sz)) else none
    | _ => none) else none
  | _ => none

def lenL : V → Option Nat
  | .str s => some s.length
  | .sl _ _ _ l _ => some l
  | .nils => some 0
  | _ => none

/-- copy(dst, src). -/
def copyV (P : Program) (h : H) (t : Nat) (x y : V) : Option (V × H) := match elemSl P t, lenL y, x with
  | some el, some m, .sl sz b o l _ => if szOf P el = some sz then (match h.get b with
    | some (.row e cs opn false) => (match srcL h sz (Nat.min m l) y with
      | some src => if o + src.length ≤ cs.length ∧ src.all V.one = true ∧ src.length = Nat.min m l * sz ∧ m ≤ 9223372036854775807 then some (.int .i64 (Nat.min m l), h.put b (.row e (put cs o src) opn false)) else none
      | none => none)
    | _ => none) else none
  | _, _, _ => none

/-- unsafe.String(p, n): the block's bytes stay as they are from then on; it goes out of sight. -/
def unStrV (P : Program) (h : H) (t : Nat) (x n : V) : Option (V × H) := match P.underlying t, n, x with
  | some (.pointer el), .int _ n, .ptr b o => (match P.underlying el, h.get b with
    | some (.int .u8), some (.row e cs _ false) => if 0 < n ∧ o + n.toNat ≤ cs.length ∧ e = el ∧ P.cellsOf el = 1 ∧ n ≤ 9223372036854775807 then (match byteL ((cs.drop o).take n.toNat) with
        | some l => some (.str l, h.kill b)
        | none => none) else none
    | _, _ => none)
  | _, _, _ => none

/-- unsafe.SliceData(x). -/
def slDataV : V → Option V
  | .nils => some .nilp
  | .sl _ b o _ (_ + 1) => some (.ptr b o)
  | _ => none

/-- The built-in functions that write, of two arguments, of one. -/
def blt2 (P : Program) (h : H) (b : Builtin) (t0 t1 : Nat) (p q : V) : Option (V × H) := match b with
  | .append => appendV P h t0 t1 p q
  | .delete => (delV P h t0 p q).map fun h => (.tup [], h)
  | .copy => copyV P h t0 p q
  | .unsafeString => unStrV P h t0 p q
  | _ => none

def blt1 (P : Program) (h : H) (b : Builtin) (t0 : Nat) (p : V) : Option (V × H) := match b with
  | .clear => (clearV P h t0 p).map fun h => (.tup [], h)
  | .unsafeSliceData => (slDataV p).map fun v => (v, h)
  | _ => none

def bltV (P : Program) (G : Nat) (env : T V) (h : H) (b : Builtin) (args : List Operand) (tys : List Nat) : Option (V × H) := match args, tys with
  | [x, y], [t0, t1] => (match opV G env x, opV G env y with
    | some p, some q => blt2 P h b t0 t1 p q
    | _, _ => none)
  | [x], [t0] => (match opV G env x with
    | some p => blt1 P h b t0 p
    | none => none)
  | _, _ => none

/-- An operation that does more. -/
def mvOp (P : Program) (G : Nat) (call : CallF) (s : St) (o : Oper) : Option (V × H × List (Nat × List V)) := match o.op with
  | .store t a x => (match opV G s.env a, opV G s.env x with
    | some p, some v => (storeV P s.h t p v).map fun h => (.tup [], h, s.ds)
    | _, _ => none)
  | .mapUpdate t m k x | .insert t m k x => (match opV G s.env m, opV G s.env k, opV G s.env x with
    | some a, some b, some c => (updV P s.h t a b c).map fun h => (.tup [], h, s.ds)
    | _, _, _ => none)
  | .range t x => (match opV G s.env x with
    | some a => (rangeV P s.h t a).map fun r => (r.1, r.2, s.ds)
    | none => none)
  | .next x str => (match opV G s.env x with
    | some a => (nextV s.h a str).map fun r => (r.1, r.2, s.ds)
    | none => none)
  | .convert t d x => (match opV G s.env x with
    | some a => (markV P s.h t d a).map fun v => (v, s.h, s.ds)
    | none => none)
  | .defer c => (match c.callee, calleeV P G s.env c with
    | .value _, some (f, args) => some (.tup [], s.h, (f, args) :: s.ds)
    | _, _ => none)
  | .call c => (match c.callee with
    | .builtin b => (bltV P G s.env s.h b c.args.toList c.argTypes.toList).map fun r => (r.1, r.2, s.ds)
    | _ => (match calleeV P G s.env c with
      | some (f, args) => (call f args s.h).map fun r => (r.1, r.2, s.ds)
      | none => none))
  | _ => none

/-- Shall the operation be done? -/
def guardV (ops : Array Oper) (env : T V) (o : Oper) : Option Bool := match o.guard with
  | none => some true
  | some (j, want) => (match (ops[j]?).bind (·.dst) with
    | some d => (match env.get d with
      | some (.bool b) => some (b == want)
      | some (.tup []) => some false
      | _ => none)
    | none => none)

def putD (nt : Nat) (env : T V) (dst : Option Nat) (v : V) : Option (T V) := match dst with
  | none => some env
  | some d => bif Nat.blt d nt then some (env.set d (some v)) else none

/-- One operation. -/
def stepV (P : Program) (G nt : Nat) (call : CallF) (ops : Array Oper) (s : St) (o : Oper) : Option St := match guardV ops s.env o with
  | some false => (putD nt s.env o.dst (.tup [])).map fun e => { s with env := e }
  | some true => (match kindOf P o with
    | (0, _) => (match rdAll P G s.h s.env o with
      | some v => (putD nt s.env o.dst v).map fun e => { s with env := e }
      | none => none)
    | (1, _) => (match alOp P G s.h s.env o with
      | some (v, h) => (putD nt s.env o.dst v).map fun e => { s with env := e, h := h }
      | none => none)
    | _ => (match mvOp P G call s o with
      | some (v, h, ds) => (putD nt s.env o.dst v).map fun e => { env := e, h := h, ds := ds }
      | none => none))
  | none => none

def stepsV (P : Program) (G nt : Nat) (call : CallF) (ops : Array Oper) : List Oper → St → Option St
  | [], s => some s
  | o :: l, s => match stepV P G nt call ops s o with
    | some s' => stepsV P G nt call ops l s'
    | none => none

mutual
def beqV : V → V → Bool
  | .int k n, .int k' n' => k == k' && n == n'
  | .bool b, .bool b' => b == b'
  | .str s, .str s' => eqL s s'
  | .ptr b o, .ptr b' o' => Nat.beq b b' && Nat.beq o o'
  | .nilp, .nilp => true
  | .sl z b o l c, .sl z' b' o' l' c' => Nat.beq z z' && Nat.beq b b' && Nat.beq o o' && Nat.beq l l' && Nat.beq c c'
  | .nils, .nils => true
  | .map b, .map b' => Nat.beq b b'
  | .nilm, .nilm => true
  | .fn f x y, .fn f' x' y' => Nat.beq f f' && beqVs x x' && beqVs y y'
  | .nilf, .nilf => true
  | .iface t v, .iface t' v' => Nat.beq t t' && beqV v v'
  | .nili, .nili => true
  | .agg l, .agg l' => beqVs l l'
  | .tup l, .tup l' => beqVs l l'
  | .any, .any => true
  | .rng k a b, .rng k' a' b' => k == k' && a == a' && b == b'
  | _, _ => false
def beqVs : List V → List V → Bool
  | [], [] => true
  | v :: l, v' :: l' => beqV v v' && beqVs l l'
  | _, _ => false
end

/- A region whose order is drawn. -/

/-- What stands ahead of each operation, in each order: bit i of the j-th number. -/
def before : List Oper → List Nat → List Nat
  | [], acc => acc
  | o :: l, acc => before l (acc ++ [o.after.toList.foldl (fun s e => if Region.binds .any e then s ||| (1 <<< e.on) ||| acc.getD e.on 0 else s) 0])

def ahead (bf : List Nat) (j i : Nat) : Bool := (bf.getD j 0).testBit i

/-- An order in which blocks are made as late as may be: (operation, how many writers are ahead of it in every order). -/
def planTo (bf : List Nat) (done : List Nat) (m : Nat) : List Nat := (List.range m).filter fun i => ahead bf m i && !done.contains i

def planGo (bf : List Nat) : List Nat → List Nat → List Nat
  | [], done => done
  | m :: ms, done => planGo bf ms (done ++ planTo bf done m ++ [m])

def moversOf (P : Program) (ops : List Oper) : List Nat := (List.range ops.length).filter fun i => match ops[i]? with
  | some o => (kindOf P o).1 == 2
  | none => false

def planOf (P : Program) (ops : List Oper) : List Nat :=
  let bf := before ops []
  let p := planGo bf (moversOf P ops) []
  p ++ (List.range ops.length).filter fun i => !p.contains i

def namesOf (ops : Array Oper) (o : Oper) : List Nat :=
  o.dst.toList ++ o.op.operands.toList.filterMap (fun | .tmp t => some t | _ => none) ++ (match o.guard with
    | some (j, _) => ((ops[j]?).bind (·.dst)).toList
    | none => [])

def isMv (P : Program) (ops : Array Oper) (i : Nat) : Bool := match ops[i]? with
  | some o => Nat.beq (kindOf P o).1 2
  | none => false

def dstOf (ops : Array Oper) (i : Nat) : Option Nat := (ops[i]?).bind (·.dst)

def nodupB : List Nat → Bool
  | [] => true
  | x :: l => !(l.contains x) && nodupB l

/-- What is looked at of the plan: those ahead of an operation stand before it; before one that moves stand only those ahead of it. -/
def planOk (P : Program) (ops : Array Oper) (bf : List Nat) (n : Nat) : List Nat → List Nat → Bool
  | _, [] => true
  | pre, j :: l => Nat.blt j n && ((List.range n).all fun i => !(ahead bf j i) || pre.contains i) && (!(isMv P ops j) || pre.all fun i => ahead bf j i) && planOk P ops bf n (pre ++ [j]) l

/-- The closed looks at a drawn region. -/
def drawOk (P : Program) (ops : Array Oper) : Bool :=
  let l := ops.toList
  let n := l.length
  let bf := before l []
  let plan := planOf P l
  (l.zipIdx.all fun (o, j) => o.after.toList.all fun e => !(Region.binds .any e) || Nat.blt e.on j) &&
  nodupB (l.filterMap (·.dst)) && nodupB plan && ((List.range n).all fun i => plan.contains i) && planOk P ops bf n [] plan

/-- The most that the writers ahead of an operation have done. -/
def lowGo (P : Program) (ops : Array Oper) (bf : List Nat) (j : Nat) : List Nat → Nat → Nat → Nat
  | [], _, acc => acc
  | i :: l, r, acc => if isMv P ops i then lowGo P ops bf j l (r + 1) (if ahead bf j i then r + 1 else acc) else lowGo P ops bf j l r acc

structure PE where
  j : Nat
  o : Oper
  drops : List Nat
  low : Nat

def peOf (P : Program) (ops : Array Oper) (bf : List Nat) (pre : List Nat) (j : Nat) (o : Oper) : PE :=
  ⟨j, o, ((List.range ops.size).filter fun i => !(ahead bf j i) && !(ahead bf i j) && !(Nat.beq i j)).filterMap (dstOf ops), lowGo P ops bf j pre 0 0⟩

def peGo (P : Program) (ops : Array Oper) (bf : List Nat) : List Nat → List Nat → Option (List PE)
  | _, [] => some []
  | pre, j :: l => match ops[j]?, peGo P ops bf (pre ++ [j]) l with
    | some o, some m => some (peOf P ops bf pre j o :: m)
    | _, _ => none

def dropL : List Nat → T V → T V
  | [], t => t
  | d :: l, t => (dropL l t).set d none

/-- A state of the plan's run: the heaps behind each writer, and the blocks made: the operation, how many writers before, the number, the block. -/
structure DR where
  s : St
  hs : List (H × List (Nat × List V))
  al : List (Nat × Nat × Nat × Blk)

def overA (bf : List Nat) (j k : Nat) : List (Nat × Nat × Nat × Blk) → H → H
  | [], h => h
  | (a, st, id, x) :: l, h => bif Nat.ble k st && ahead bf j a then (overA bf j k l h).put id x else overA bf j k l h

/-- What is read must be the same whatever writers have written that may have. -/
def sameFrom (P : Program) (G : Nat) (bf : List Nat) (j : Nat) (al : List (Nat × Nat × Nat × Blk)) (env : T V) (o : Oper) (v : V) : Nat → List (H × List (Nat × List V)) → Bool
  | _, [] => true
  | k, (h, _) :: l => (match rdAll P G (overA bf j k al h) env o with
    | some u => beqV u v
    | none => false) && sameFrom P G bf j al env o v (k + 1) l

def drawStep (P : Program) (G nt : Nat) (call : CallF) (ops : Array Oper) (bf : List Nat) (p : PE) (d : DR) : Option DR :=
  let env := dropL p.drops d.s.env
  match guardV ops env p.o with
  | none => none
  | some false => (putD nt d.s.env p.o.dst (.tup [])).map fun e => ⟨{ d.s with env := e }, if Nat.beq (kindOf P p.o).1 2 then d.hs ++ [(d.s.h, d.s.ds)] else d.hs, d.al⟩
  | some true => (match (kindOf P p.o).1 with
    | 0 => (match d.hs.drop p.low with
      | [] => none
      | (h, _) :: l => (match rdAll P G (overA bf p.j p.low d.al h) env p.o with
        | none => none
        | some v => if sameFrom P G bf p.j d.al env p.o v (p.low + 1) l then (putD nt d.s.env p.o.dst v).map fun e => ⟨{ d.s with env := e }, d.hs, d.al⟩ else none))
    | 1 => (match alOp P G d.s.h env p.o with
      | none => none
      | some (v, h) => (match h.get d.s.h.n with
        | none => none
        | some x => (putD nt d.s.env p.o.dst v).map fun e => ⟨{ d.s with env := e, h := h }, d.hs, d.al ++ [(p.j, d.hs.length - 1, d.s.h.n, x)]⟩))
    | 2 => (match mvOp P G call { d.s with env := env } p.o with
      | none => none
      | some (v, h, ds) => (putD nt d.s.env p.o.dst v).map fun e => ⟨⟨e, h, ds⟩, d.hs ++ [(h, ds)], d.al⟩)
    | _ => none)

def drawGo (P : Program) (G nt : Nat) (call : CallF) (ops : Array Oper) (bf : List Nat) : List PE → DR → Option DR
  | [], d => some d
  | p :: l, d => match drawStep P G nt call ops bf p d with
    | some d' => drawGo P G nt call ops bf l d'
    | none => none

def drawV (P : Program) (G nt : Nat) (call : CallF) (ops : Array Oper) (s : St) : Option St :=
  if drawOk P ops then (match peGo P ops (before ops.toList []) [] (planOf P ops.toList) with
    | some l => (drawGo P G nt call ops (before ops.toList []) l ⟨s, [(s.h, s.ds)], []⟩).map (·.s)
    | none => none) else none

inductive X : Type where
  | normal
  | ret
  | exit (id : Nat)

def loopV (body : St → Option (X × St)) : Nat → St → Option (X × St)
  | 0, _ => none
  | n + 1, s => match body s with
    | some (.normal, s') => loopV body n s'
    | r => r

def evC (P : Program) (G nt : Nat) (call : CallF) (lf : Nat) : Code → St → Option (X × St)
  | .skip, s | .label _, s => some (.normal, s)
  | .region _ ops draw, s => if draw then (drawV P G nt call ops s).map fun s' => (.normal, s') else (stepsV P G nt call ops ops.toList s).map fun s' => (.normal, s')
  | .seq a b, s => match evC P G nt call lf a s with
    | some (.normal, s') => evC P G nt call lf b s'
    | r => r
  | .cond c a b, s => match opV G s.env c with
    | some (.bool true) => evC P G nt call lf a s
    | some (.bool false) => evC P G nt call lf b s
    | _ => none
  | .block id c, s => match evC P G nt call lf c s with
    | some (.exit i, s') => some (if i = id then .normal else .exit i, s')
    | r => r
  | .loop c, s => loopV (evC P G nt call lf c) lf s
  | .exit id, s => some (.exit id, s)
  | .scope c, s => evC P G nt call lf c s
  | .ret, s => some (.ret, s)
  | _, _ => none

def envOf : List V → Nat → T V → T V
  | [], _, t => t
  | v :: l, i, t => envOf l (i + 1) (t.set i (some v))

def resV (P : Program) (h : H) (env : T V) : List ResultVar → Option (List V)
  | [] => some []
  | .tmp t :: l => match env.get t, resV P h env l with
    | some v, some m => some (v :: m)
    | _, _ => none
  | .cell a t :: l => match env.get a, resV P h env l with
    | some p, some m => (loadV P h t p).map (· :: m)
    | _, _ => none

def resultsV (P : Program) (h : H) (env : T V) (fn : Func) : Option V := match resV P h env fn.results.toList with
  | some [v] => some v
  | some l => some (.tup l)
  | none => none

/-- A body, from its arguments. -/
def bodyV (P : Program) (G : Nat) (call : CallF) (lf : Nat) (fn : Func) (args : List V) (h : H) : Option St := match fn.body with
  | some c => if args.length ≤ fn.ntmps then (match evC P G fn.ntmps call lf c ⟨envOf args 0 .nil, h, []⟩ with
    | some (.normal, s) | some (.ret, s) => some s
    | _ => none) else none
  | none => none

def deferV (P : Program) (G : Nat) (call : CallF) (lf : Nat) : List (Nat × List V) → H → Option H
  | [], h => some h
  | (f, args) :: l, h => match P.funcs[f]? with
    | some fn => (match bodyV P G call lf fn args h with
      | some s => if s.ds.isEmpty && (resultsV P s.h s.env fn).isSome then deferV P G call lf l s.h else none
      | none => none)
    | none => none

/-- A call: 'ext' answers for functions by itself. -/
def evF (P : Program) (G : Nat) (ext : Nat → Option (List V → H → Option (V × H))) : Nat → Nat → List V → H → Option (V × H)
  | 0, _, _, _ => none
  | n + 1, f, args, h => match ext f with
    | some g => g args h
    | none => (match P.funcs[f]? with
      | some fn => (match bodyV P G (evF P G ext n) n fn args h with
        | some s => (match deferV P G (evF P G ext n) n s.ds s.h with
          | some h' => (resultsV P h' s.env fn).map fun v => (v, h')
          | none => none)
        | none => none)
      | none => none)

end Go.Proofs.YtgihdlhoaimlpaaGreatDoor.AM
