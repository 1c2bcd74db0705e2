/- The abstract machine: numbers, strings, comparisons, addresses, slices. -/
import Derived.Test.YtgihdlhoaimlpaaGreatDoorAMe
namespace Go.Proofs.YtgihdlhoaimlpaaGreatDoor.AM
set_option autoImplicit false
set_option linter.unusedSimpArgs false
set_option linter.unusedVariables false

def intV (op : BinOp) (k : IntKind) (x y : Int) : Option V := match op with
  | .add => some (.int k (k.wrap (x + y)))
  | .sub => some (.int k (k.wrap (x - y)))
  | .mul => some (.int k (k.wrap (x * y)))
  | .quo => if y = 0 then none else some (.int k (k.wrap (x.tdiv y)))
  | .rem => if y = 0 then none else some (.int k (x.tmod y))
  | .and => some (.int k (k.wrap (BitVec.ofInt k.bits x &&& BitVec.ofInt k.bits y).toNat))
  | .or => some (.int k (k.wrap (BitVec.ofInt k.bits x ||| BitVec.ofInt k.bits y).toNat))
  | .xor => some (.int k (k.wrap (BitVec.ofInt k.bits x ^^^ BitVec.ofInt k.bits y).toNat))
  | .andNot => some (.int k (k.wrap (BitVec.ofInt k.bits x &&& ~~~ BitVec.ofInt k.bits y).toNat))
  | .eql => some (.bool (x == y))
  | .neq => some (.bool (x != y))
  | .lss => some (.bool (x < y))
  | .leq => some (.bool (x ≤ y))
  | .gtr => some (.bool (x > y))
  | .geq => some (.bool (x ≥ y))
  | _ => none

def shV (op : BinOp) (k : IntKind) (x y : Int) : Option V :=
  if y < 0 then none else match op with
    | .shl => some (.int k (k.wrap (x * 2 ^ min y.toNat k.bits)))
    | .shr => some (.int k (x.fdiv (2 ^ min y.toNat k.bits)))
    | _ => none

def lessL : List Nat → List Nat → Bool
  | _, [] => false
  | [], _ :: _ => true
  | a :: x, b :: y => Nat.blt a b || (Nat.beq a b && lessL x y)

def eqL : List Nat → List Nat → Bool
  | [], [] => true
  | a :: x, b :: y => Nat.beq a b && eqL x y
  | _, _ => false

def strV (op : BinOp) (x y : List Nat) : Option V := match op with
  | .add => if x.length + y.length < 2 ^ 62 then some (.str (x ++ y)) else none
  | .eql => some (.bool (eqL x y))
  | .neq => some (.bool !(eqL x y))
  | .lss => some (.bool (lessL x y))
  | .leq => some (.bool (lessL x y || eqL x y))
  | .gtr => some (.bool !(lessL x y || eqL x y))
  | .geq => some (.bool !(lessL x y))
  | _ => none

theorem eqL_iff : ∀ (x y : List Nat), eqL x y = true ↔ x = y
  | [], [] => by simp [eqL]
  | [], _ :: _ => by simp [eqL]
  | _ :: _, [] => by simp [eqL]
  | a :: x, b :: y => by simp [eqL, eqL_iff x y]

theorem toNat_inj {l m : List UInt8} (h : l.map (·.toNat) = m.map (·.toNat)) : l = m := by
  refine List.map_inj_right (f := UInt8.toNat) (fun a b h => ?_) |>.1 h
  exact UInt8.toNat.inj h

theorem strOf_inj {a b : ByteArray} (h : strOf a = strOf b) : a = b := by
  have := toNat_inj h
  cases a; cases b; simp at this; simpa using this

theorem eqL_str (a b : ByteArray) : eqL (strOf a) (strOf b) = (a.data.toList == b.data.toList) := by
  rw [Bool.eq_iff_iff, eqL_iff, beq_iff_eq]
  exact ⟨fun h => toNat_inj h, fun h => by unfold strOf; rw [h]⟩

theorem lessL_str : ∀ (x y : List UInt8), lessL (x.map (·.toNat)) (y.map (·.toNat)) = Op.bytesLess x y
  | x, [] => by cases x <;> simp [lessL, Op.bytesLess]
  | [], _ :: _ => by simp [lessL, Op.bytesLess]
  | a :: x, b :: y => by
    simp only [List.map_cons, lessL, Op.bytesLess, lessL_str x y]
    have h1 : Nat.blt a.toNat b.toNat = decide (a < b) := by
      rw [Bool.eq_iff_iff]; simp [Nat.blt, UInt8.lt_iff_toNat_lt, Nat.succ_le_iff]
    have h2 : Nat.beq a.toNat b.toNat = (a == b) := by
      rw [Bool.eq_iff_iff]; simp; exact ⟨fun h => UInt8.toNat.inj h, fun h => by rw [h]⟩
    rw [h1, h2]

end Go.Proofs.YtgihdlhoaimlpaaGreatDoor.AM
