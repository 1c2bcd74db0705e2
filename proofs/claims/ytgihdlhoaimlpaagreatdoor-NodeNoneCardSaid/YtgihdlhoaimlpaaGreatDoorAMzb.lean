/- The abstract machine: the same evaluator, laid so that the kernel runs it quickly: paths, numbers. -/
import Derived.Test.YtgihdlhoaimlpaaGreatDoorAMza
namespace Go.Proofs.YtgihdlhoaimlpaaGreatDoor.AM
set_option autoImplicit false
set_option linter.unusedSimpArgs false
set_option linter.unusedVariables false
noncomputable section

def obnd {α β : Type} (o : Option α) (k : α → Option β) : Option β := Option.rec none k o
theorem obnd_eq {α β : Type} (o : Option α) (k : α → Option β) : obnd o k = o.bind k := by cases o <;> rfl
@[simp] theorem obnd_some {α β : Type} (a : α) (k : α → Option β) : obnd (some a) k = k a := rfl
@[simp] theorem obnd_none {α β : Type} (k : α → Option β) : obnd (none : Option α) k = none := rfl

inductive Pth : Type where
  | here
  | lft (p : Pth)
  | rgt (p : Pth)

def pthF : Nat → Nat → Pth
  | 0, _ => .here
  | f + 1, n => bif Nat.beq n 0 then .here else bif Nat.beq (n % 2) 1 then .lft (pthF f (n / 2)) else .rgt (pthF f (n / 2 - 1))

def pth (n : Nat) : Pth := pthF (n + 1) n

def getP {α : Type} (p : Pth) : T α → Option α := Pth.rec (motive := fun _ => T α → Option α)
  (fun t => T.casesOn t none (fun _ v _ => v))
  (fun _ ih t => T.casesOn t none (fun l _ _ => ih l))
  (fun _ ih t => T.casesOn t none (fun _ _ r => ih r)) p

def setP {α : Type} (p : Pth) (x : Option α) : T α → T α := Pth.rec (motive := fun _ => T α → T α)
  (fun t => T.casesOn t (.node .nil x .nil) (fun l _ r => .node l x r))
  (fun _ ih t => T.casesOn t (.node (ih .nil) none .nil) (fun l v r => .node (ih l) v r))
  (fun _ ih t => T.casesOn t (.node .nil none (ih .nil)) (fun l v r => .node l v (ih r))) p

theorem getP_eq {α : Type} : ∀ (f n : Nat) (t : T α), n < f → getP (pthF f n) t = t.get n := by
  intro f
  induction f with
  | zero => intro n t h; omega
  | succ f ih =>
    intro n t h
    by_cases h0 : n = 0
    · subst h0; cases t <;> simp [pthF, getP, T.get]
    · have e0 : Nat.beq n 0 = false := nbf h0
      by_cases h1 : n % 2 = 1
      · have e1 : Nat.beq (n % 2) 1 = true := nbt h1
        simp only [pthF, e0, e1, cond_true, cond_false]
        cases t with
        | nil => simp [getP, T.get]
        | node l v r =>
          simp only [T.get, e0, e1, cond_true, cond_false]
          rw [← ih (n / 2) l (by omega)]; rfl
      · have e1 : Nat.beq (n % 2) 1 = false := nbf h1
        simp only [pthF, e0, e1, cond_true, cond_false]
        cases t with
        | nil => simp [getP, T.get]
        | node l v r =>
          simp only [T.get, e0, e1, cond_true, cond_false]
          rw [← ih (n / 2 - 1) r (by omega)]; rfl

theorem setP_eq {α : Type} (x : Option α) : ∀ (f n : Nat) (t : T α), n < f → setP (pthF f n) x t = T.setF f t n x := by
  intro f
  induction f with
  | zero => intro n t h; omega
  | succ f ih =>
    intro n t h
    by_cases h0 : n = 0
    · subst h0; cases t <;> simp [pthF, setP, T.setF]
    · have e0 : Nat.beq n 0 = false := nbf h0
      by_cases h1 : n % 2 = 1
      · have e1 : Nat.beq (n % 2) 1 = true := nbt h1
        simp only [pthF, e0, e1, cond_true, cond_false]
        cases t with
        | nil =>
          simp only [T.setF, e0, e1, cond_true, cond_false]
          rw [← ih (n / 2) .nil (by omega)]; rfl
        | node l v r =>
          simp only [T.setF, e0, e1, cond_true, cond_false]
          rw [← ih (n / 2) l (by omega)]; rfl
      · have e1 : Nat.beq (n % 2) 1 = false := nbf h1
        simp only [pthF, e0, e1, cond_true, cond_false]
        cases t with
        | nil =>
          simp only [T.setF, e0, e1, cond_true, cond_false]
          rw [← ih (n / 2 - 1) .nil (by omega)]; rfl
        | node l v r =>
          simp only [T.setF, e0, e1, cond_true, cond_false]
          rw [← ih (n / 2 - 1) r (by omega)]; rfl

theorem get_pth {α : Type} (n : Nat) (t : T α) : getP (pth n) t = t.get n := getP_eq _ _ _ (by omega)
theorem set_pth {α : Type} (n : Nat) (t : T α) (x : Option α) : setP (pth n) x t = t.set n x := setP_eq x _ _ _ (by omega)

/- Numbers. -/
def modK (k : IntKind) : Nat := IntKind.rec 256 65536 4294967296 18446744073709551616 256 65536 4294967296 18446744073709551616 k
def limK (k : IntKind) : Nat := IntKind.rec 127 32767 2147483647 9223372036854775807 255 65535 4294967295 18446744073709551615 k

def wrapN (k : IntKind) (r : Nat) : Int := bif Nat.ble r (limK k) then Int.ofNat r else Int.negSucc (modK k - 1 - r)
def wrapF (k : IntKind) (n : Int) : Int := Int.rec (fun m => bif Nat.ble m (limK k) then Int.ofNat m else wrapN k (m % modK k)) (fun m => wrapN k (modK k - 1 - m % modK k)) n

theorem wrapN_eq (k : IntKind) (r : Nat) (h : r < modK k) : wrapN k r = (if k.signed && (r : Int) ≥ (2 ^ (k.bits - 1) : Int) then (r : Int) - (2 ^ k.bits : Int) else r) := by
  unfold wrapN
  cases hb : Nat.ble r (limK k) with
  | true =>
    have hb' := Nat.le_of_ble_eq_true hb
    cases k <;> simp [limK, modK, IntKind.signed, IntKind.bits] at * <;> omega
  | false =>
    have hb' : ¬ r ≤ limK k := fun h => by rw [Nat.ble_eq_true_of_le h] at hb; cases hb
    cases k <;> simp [limK, modK, IntKind.signed, IntKind.bits] at * <;> omega

theorem wrapF_eq (k : IntKind) (n : Int) : wrapF k n = k.wrap n := by
  have hm : (2 ^ k.bits : Int) = (modK k : Int) := by cases k <;> rfl
  have pos : 0 < modK k := by cases k <;> decide
  cases n with
  | ofNat m =>
    have e : (Int.ofNat m) % (2 ^ k.bits : Int) = ((m % modK k : Nat) : Int) := by rw [hm]; rfl
    have key : wrapN k (m % modK k) = k.wrap (Int.ofNat m) := by
      rw [wrapN_eq k _ (Nat.mod_lt _ pos)]
      simp only [IntKind.wrap, e]
    show (bif Nat.ble m (limK k) then Int.ofNat m else wrapN k (m % modK k)) = _
    cases hb : Nat.ble m (limK k) with
    | false => exact key
    | true =>
      rw [← key]
      have hb' := Nat.le_of_ble_eq_true hb
      have hlt : limK k < modK k := by cases k <;> decide
      rw [Nat.mod_eq_of_lt (by omega)]
      unfold wrapN
      rw [hb]
      rfl
  | negSucc m =>
    have e : (Int.negSucc m) % (2 ^ k.bits : Int) = ((modK k - 1 - m % modK k : Nat) : Int) := by
      rw [hm]
      have hlt := Nat.mod_lt m pos
      have hd := Nat.div_add_mod m (modK k)
      have : Int.negSucc m = ((modK k - 1 - m % modK k : Nat) : Int) + (modK k : Int) * (-((m / modK k : Nat) : Int) - 1) := by
        rw [Int.negSucc_eq]
        have h1 : ((modK k - 1 - m % modK k : Nat) : Int) = (modK k : Int) - 1 - ((m % modK k : Nat) : Int) := by omega
        rw [h1]
        have h2 : (m : Int) = (modK k : Int) * ((m / modK k : Nat) : Int) + ((m % modK k : Nat) : Int) := by exact_mod_cast hd.symm
        rw [Int.mul_sub, Int.mul_neg]
        omega
      rw [this, Int.add_mul_emod_self_left]
      exact Int.emod_eq_of_lt (by omega) (by omega)
    show wrapN k (modK k - 1 - m % modK k) = _
    rw [wrapN_eq k _ (by omega)]
    simp only [IntKind.wrap, e]

def kIdx (k : IntKind) : Nat := IntKind.rec 0 1 2 3 4 5 6 7 k
theorem kIdx_eq (a b : IntKind) : Nat.beq (kIdx a) (kIdx b) = decide (a = b) := by cases a <;> cases b <;> rfl

/-- Two numbers that are not negative. -/
def nn2 {α : Type} (f : Nat → Nat → α) (x y : Int) (g : α) : α := Int.rec (fun a => Int.rec (fun b => f a b) (fun _ => g) y) (fun _ => g) x

theorem nn2_eq {α : Type} {f : Nat → Nat → α} {x y : Int} {g : α} (h : ∀ a b : Nat, x = a → y = b → f a b = g) : nn2 f x y g = g := by
  cases x with
  | ofNat a =>
    cases y with
    | ofNat b => exact h a b rfl rfl
    | negSucc b => rfl
  | negSucc a => rfl

def intF (op : BinOp) : IntKind → Int → Int → Option V := match op with
  | .add => fun k x y => some (.int k (nn2 (fun a b => wrapF k (Int.ofNat (a + b))) x y (wrapF k (x + y))))
  | .sub => fun k x y => some (.int k (nn2 (fun a b => bif Nat.ble b a then wrapF k (Int.ofNat (a - b)) else wrapF k (Int.negSucc (b - a - 1))) x y (wrapF k (x - y))))
  | .mul => fun k x y => some (.int k (nn2 (fun a b => wrapF k (Int.ofNat (a * b))) x y (wrapF k (x * y))))
  | .and => fun k x y => some (.int k (nn2 (fun a b => wrapF k (Int.ofNat (Nat.land (a % modK k) (b % modK k)))) x y (wrapF k (BitVec.ofInt k.bits x &&& BitVec.ofInt k.bits y).toNat)))
  | .or => fun k x y => some (.int k (nn2 (fun a b => wrapF k (Int.ofNat (Nat.lor (a % modK k) (b % modK k)))) x y (wrapF k (BitVec.ofInt k.bits x ||| BitVec.ofInt k.bits y).toNat)))
  | .xor => fun k x y => some (.int k (nn2 (fun a b => wrapF k (Int.ofNat (Nat.xor (a % modK k) (b % modK k)))) x y (wrapF k (BitVec.ofInt k.bits x ^^^ BitVec.ofInt k.bits y).toNat)))
  | .eql => fun _ x y => some (.bool (nn2 (fun a b => Nat.beq a b) x y (x == y)))
  | .neq => fun _ x y => some (.bool (nn2 (fun a b => !(Nat.beq a b)) x y (x != y)))
  | .lss => fun _ x y => some (.bool (nn2 (fun a b => Nat.blt a b) x y (x < y)))
  | .leq => fun _ x y => some (.bool (nn2 (fun a b => Nat.ble a b) x y (x ≤ y)))
  | .gtr => fun _ x y => some (.bool (nn2 (fun a b => Nat.blt b a) x y (x > y)))
  | .geq => fun _ x y => some (.bool (nn2 (fun a b => Nat.ble b a) x y (x ≥ y)))
  | op => fun k x y => intV op k x y

theorem bits_mod (k : IntKind) : 2 ^ k.bits = modK k := by cases k <;> rfl

theorem ofInt_nat (k : IntKind) (a : Nat) : (BitVec.ofInt k.bits (a : Int)).toNat = a % modK k := by
  rw [BitVec.toNat_ofInt]
  have : ((a : Int) % (2 ^ k.bits : Nat)).toNat = a % 2 ^ k.bits := by rw [← Int.natCast_emod]; exact Int.toNat_natCast _
  rw [this, bits_mod]

theorem intF_eq (op : BinOp) (k : IntKind) (x y : Int) : intF op k x y = intV op k x y := by
  have beq : ∀ a b : Nat, Nat.beq a b = decide (a = b) := fun a b => by
    by_cases h : a = b
    · subst h; simp
    · rw [nbf h]; simp [h]
  have ble : ∀ a b : Nat, Nat.ble a b = decide (a ≤ b) := fun a b => by
    by_cases h : a ≤ b
    · rw [Nat.ble_eq_true_of_le h]; simp [h]
    · cases hb : Nat.ble a b with
      | true => exact absurd (Nat.le_of_ble_eq_true hb) h
      | false => simp [h]
  have blt : ∀ a b : Nat, Nat.blt a b = decide (a < b) := fun a b => by unfold Nat.blt; rw [ble]; rfl
  cases op <;> simp only [intF, intV]
  all_goals try rfl
  case add => congr 2; rw [nn2_eq]; exact wrapF_eq k _; rintro a b rfl rfl; rfl
  case sub =>
    congr 2; rw [nn2_eq]; exact wrapF_eq k _
    rintro a b rfl rfl
    cases hb : Nat.ble b a with
    | true =>
      have := Nat.le_of_ble_eq_true hb
      simp only [cond_true]; congr 1; show ((a - b : Nat) : Int) = _; omega
    | false =>
      have : ¬ b ≤ a := fun h => by rw [Nat.ble_eq_true_of_le h] at hb; cases hb
      simp only [cond_false]; congr 1; omega
  case mul => congr 2; rw [nn2_eq]; exact wrapF_eq k _; rintro a b rfl rfl; rfl
  case and =>
    congr 2; rw [nn2_eq]; exact wrapF_eq k _; rintro a b rfl rfl
    rw [BitVec.toNat_and, ofInt_nat, ofInt_nat]; rfl
  case or =>
    congr 2; rw [nn2_eq]; exact wrapF_eq k _; rintro a b rfl rfl
    rw [BitVec.toNat_or, ofInt_nat, ofInt_nat]; rfl
  case xor =>
    congr 2; rw [nn2_eq]; exact wrapF_eq k _; rintro a b rfl rfl
    rw [BitVec.toNat_xor, ofInt_nat, ofInt_nat]; rfl
  case eql => congr 2; rw [nn2_eq]; rintro a b rfl rfl; rw [beq]; by_cases h : a = b <;> first | (simp [h]; done) | (simp [h]; omega)
  case neq => congr 2; rw [nn2_eq]; rintro a b rfl rfl; rw [beq]; by_cases h : a = b <;> first | (simp [h]; done) | (simp [h]; omega)
  case lss => congr 2; rw [nn2_eq]; rintro a b rfl rfl; rw [blt]; simp
  case leq => congr 2; rw [nn2_eq]; rintro a b rfl rfl; rw [ble]; simp
  case gtr => congr 2; rw [nn2_eq]; rintro a b rfl rfl; rw [blt]; simp
  case geq => congr 2; rw [nn2_eq]; rintro a b rfl rfl; rw [ble]; simp

def minN (a b : Nat) : Nat := bif Nat.ble a b then a else b

def shF (op : BinOp) : IntKind → Int → Int → Option V := match op with
  | .shl => fun k x y => nn2 (fun a s => some (.int k (wrapF k (Int.ofNat (a * 2 ^ minN s k.bits))))) x y (shV .shl k x y)
  | .shr => fun k x y => nn2 (fun a s => some (.int k (Int.ofNat (a / 2 ^ minN s k.bits)))) x y (shV .shr k x y)
  | op => fun k x y => shV op k x y

theorem minN_eq (a b : Nat) : minN a b = min a b := by
  unfold minN
  cases hb : Nat.ble a b with
  | true => have := Nat.le_of_ble_eq_true hb; simp; omega
  | false =>
    have : ¬ a ≤ b := fun h => by rw [Nat.ble_eq_true_of_le h] at hb; cases hb
    simp; omega

theorem shF_eq (op : BinOp) (k : IntKind) (x y : Int) : shF op k x y = shV op k x y := by
  cases op <;> simp only [shF]
  case shl =>
    rw [nn2_eq]; rintro a b rfl rfl
    have : ¬ ((b : Int) < 0) := by omega
    simp only [shV, this, if_false, wrapF_eq, minN_eq, Int.toNat_natCast]
    rfl
  case shr =>
    rw [nn2_eq]; rintro a b rfl rfl
    have : ¬ ((b : Int) < 0) := by omega
    simp only [shV, this, if_false, minN_eq, Int.toNat_natCast]
    congr 2
    rw [show ((2 : Int) ^ min b k.bits) = ((2 ^ min b k.bits : Nat) : Int) by simp]
    rw [Int.fdiv_eq_ediv_of_nonneg _ (Int.natCast_nonneg _)]
    rfl

end
end Go.Proofs.YtgihdlhoaimlpaaGreatDoor.AM
