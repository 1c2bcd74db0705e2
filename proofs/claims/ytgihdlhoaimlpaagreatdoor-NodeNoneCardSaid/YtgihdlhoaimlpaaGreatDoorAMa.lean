/- The abstract machine: values, heaps, and what it means that a heap of the model shows one. -/
import Derived.Orders
import Derived.Defers
import Derived.Scope
import Derived.Tactics
import Derived.LoopN
namespace Go.Proofs.YtgihdlhoaimlpaaGreatDoor.AM
set_option autoImplicit false
set_option linter.unusedSimpArgs false

/-- A map from numbers, as a tree. -/
inductive T (α : Type) : Type where
  | nil
  | node (l : T α) (v : Option α) (r : T α)

def T.get {α : Type} : T α → Nat → Option α
  | .nil, _ => none
  | .node l v r, n => bif Nat.beq n 0 then v else bif Nat.beq (n % 2) 1 then l.get (n / 2) else r.get (n / 2 - 1)

def T.setF {α : Type} : Nat → T α → Nat → Option α → T α
  | 0, t, _, _ => t
  | f + 1, .nil, n, x => bif Nat.beq n 0 then .node .nil x .nil else bif Nat.beq (n % 2) 1 then .node (T.setF f .nil (n / 2) x) none .nil else .node .nil none (T.setF f .nil (n / 2 - 1) x)
  | f + 1, .node l v r, n, x => bif Nat.beq n 0 then .node l x r else bif Nat.beq (n % 2) 1 then .node (T.setF f l (n / 2) x) v r else .node l v (T.setF f r (n / 2 - 1) x)

def T.set {α : Type} (t : T α) (n : Nat) (x : Option α) : T α := T.setF (n + 1) t n x

theorem nbf {m n : Nat} (h : m ≠ n) : Nat.beq m n = false := by
  cases e : Nat.beq m n with
  | false => rfl
  | true => exact absurd (Nat.eq_of_beq_eq_true e) h
theorem nbt {m n : Nat} (h : m = n) : Nat.beq m n = true := by subst h; exact Nat.beq_refl m

theorem T.get_nil {α : Type} (n : Nat) : (T.nil : T α).get n = none := by simp [T.get]

theorem T.get_setF {α : Type} : ∀ (f : Nat) (t : T α) (n m : Nat) (x : Option α), n < f → (T.setF f t n x).get m = if m = n then x else t.get m := by
  intro f
  induction f with
  | zero => intro t n m x h; omega
  | succ f ih =>
    intro t n m x h
    by_cases h0 : n = 0
    · subst h0
      by_cases hm : m = 0
      · subst hm; cases t <;> simp [T.setF, T.get]
      · have : Nat.beq m 0 = false := nbf hm
        cases t <;> simp [T.setF, T.get, this, hm]
    · have e0 : Nat.beq n 0 = false := nbf h0
      by_cases h1 : n % 2 = 1
      · have e1 : Nat.beq (n % 2) 1 = true := nbt h1
        by_cases hm : m = 0
        · subst hm
          have : (0 : Nat) ≠ n := Ne.symm h0
          cases t <;> simp [T.setF, T.get, e0, e1, this]
        · have f0 : Nat.beq m 0 = false := nbf hm
          by_cases g1 : m % 2 = 1
          · have f1 : Nat.beq (m % 2) 1 = true := nbt g1
            have hiff : (m / 2 = n / 2) ↔ m = n := by omega
            cases t <;> simp only [T.setF, T.get, e0, e1, f0, f1, cond_true, cond_false] <;> rw [ih _ _ _ _ (by omega)] <;> simp [hiff, T.get]
          · have f1 : Nat.beq (m % 2) 1 = false := nbf g1
            have : m ≠ n := by omega
            cases t <;> simp [T.setF, T.get, e0, e1, f0, f1, this]
      · have e1 : Nat.beq (n % 2) 1 = false := nbf h1
        by_cases hm : m = 0
        · subst hm
          have : (0 : Nat) ≠ n := Ne.symm h0
          cases t <;> simp [T.setF, T.get, e0, e1, this]
        · have f0 : Nat.beq m 0 = false := nbf hm
          by_cases g1 : m % 2 = 1
          · have f1 : Nat.beq (m % 2) 1 = true := nbt g1
            have : m ≠ n := by omega
            cases t <;> simp [T.setF, T.get, e0, e1, f0, f1, this]
          · have f1 : Nat.beq (m % 2) 1 = false := nbf g1
            have hiff : (m / 2 - 1 = n / 2 - 1) ↔ m = n := by omega
            cases t <;> simp only [T.setF, T.get, e0, e1, f0, f1, cond_true, cond_false] <;> rw [ih _ _ _ _ (by omega)] <;> simp [hiff, T.get]

@[simp] theorem T.get_set {α : Type} (t : T α) (n m : Nat) (x : Option α) : (t.set n x).get m = if m = n then x else t.get m :=
  T.get_setF _ _ _ _ _ (by omega)

/-- An abstract value: addresses are a block's number and a place; a string is its bytes. -/
inductive V : Type where
  | int (k : IntKind) (n : Int)
  | bool (b : Bool)
  | str (s : List Nat)
  | ptr (b o : Nat)
  | nilp
  | sl (sz b o l c : Nat)
  | nils
  | map (b : Nat)
  | nilm
  | fn (f : Nat) (first cap : List V)
  | nilf
  | iface (t : Nat) (v : V)
  | nili
  | agg (l : List V)
  | tup (l : List V)
  | any
  | rng (k : IntKind) (lo hi : Int)
  deriving Inhabited

/-- Where a block lies: the model's block, from which cell on, how many cells are told, and up to where the cells are its own. -/
structure Win where
  blk : Nat
  sh : Nat
  size : Nat
  fin : Nat

/-- What is known of each abstract block: nothing yet; 'some none': it is gone; 'some (some W)': it lies there. -/
abbrev Ren := Nat → Option (Option Win)

def PRel (ρ : Ren) (b o : Nat) (a : Addr) : Prop :=
  a.spot = none ∧ (ρ b = some none ∨ ∃ W, ρ b = some (some W) ∧ a.block = W.blk ∧ a.off = W.sh + o)

/-- A slice's capacity: where the told cells end it may be greater, up to the end of the block's own cells. -/
def CRel (ρ : Ren) (sz b o c c' : Nat) : Prop :=
  ∀ W, ρ b = some (some W) → o + c * sz ≤ W.size ∧ W.sh + o + c' * sz ≤ W.fin ∧ (o + c * sz < W.size → c' = c)

/-- A slice: one without room may lie anywhere. -/
def SRel (ρ : Ren) (sz b o l c : Nat) (a : Addr) (l' c' : Nat) : Prop :=
  l' = l ∧ l ≤ c ∧ c ≤ c' ∧ (c' = 0 ∧ c = 0 ∨ PRel ρ b o a ∧ CRel ρ sz b o c c')

def strOf (s : ByteArray) : List Nat := s.data.toList.map (·.toNat)

mutual
def VRel (ρ : Ren) : V → Value → Prop
  | .int k n, .int k' n' => k' = k ∧ n' = n
  | .bool b, .bool b' => b' = b
  | .str s, .string s' => strOf s' = s
  | .ptr b o, .pointer (some a) => PRel ρ b o a
  | .nilp, .pointer none => True
  | .sl sz b o l c, .slice (some a) l' c' => SRel ρ sz b o l c a l' c'
  | .nils, .slice none 0 0 => True
  | .map b, .map (some r) => ρ b = some none ∨ ∃ W, ρ b = some (some W) ∧ r = W.blk
  | .nilm, .map none => True
  | .fn f x y, .func (.func f') x' y' => f' = f ∧ LRel ρ x x'.toList ∧ LRel ρ y y'.toList
  | .nilf, .nilFunc => True
  | .iface t v, .iface t' v' => t' = t ∧ VRel ρ v v'
  | .nili, .nilIface => True
  | .agg l, .agg l' => LRel ρ l l'.toList
  | .tup l, .tuple l' => LRel ρ l l'.toList
  | .any, v' => v'.oneCell' = true
  | .rng k lo hi, .int k' n => k' = k ∧ lo ≤ n ∧ n ≤ hi
  | _, _ => False
def LRel (ρ : Ren) : List V → List Value → Prop
  | [], [] => True
  | v :: l, v' :: l' => VRel ρ v v' ∧ LRel ρ l l'
  | _, _ => False
end

end Go.Proofs.YtgihdlhoaimlpaaGreatDoor.AM
