/- The abstract machine: what shows a value; two operands. -/
import Derived.Test.YtgihdlhoaimlpaaGreatDoorAMf
import Derived.Laws.StructEq
import Derived.Laws.Strings
namespace Go.Proofs.YtgihdlhoaimlpaaGreatDoor.AM
set_option autoImplicit false
set_option linter.unusedSimpArgs false
set_option linter.unusedVariables false

section
variable {ρ : Ren} {v' : Value}
theorem inv_int {k : IntKind} {n : Int} (h : VRel ρ (.int k n) v') : v' = .int k n := by cases v' <;> simp_all [VRel]
theorem inv_rng {k : IntKind} {lo hi : Int} (h : VRel ρ (.rng k lo hi) v') : ∃ n, v' = .int k n ∧ lo ≤ n ∧ n ≤ hi := by cases v' <;> simp_all [VRel]
theorem inv_bool {b : Bool} (h : VRel ρ (.bool b) v') : v' = .bool b := by cases v' <;> simp_all [VRel]
theorem inv_str {s : List Nat} (h : VRel ρ (.str s) v') : ∃ s', v' = .string s' ∧ strOf s' = s := by cases v' <;> simp_all [VRel]
theorem inv_ptr {b o : Nat} (h : VRel ρ (.ptr b o) v') : ∃ a, v' = .pointer (some a) ∧ PRel ρ b o a := by
  cases v' with
  | pointer a => cases a <;> simp_all [VRel]
  | _ => simp [VRel] at h
theorem inv_nilp (h : VRel ρ .nilp v') : v' = .pointer none := by
  cases v' with
  | pointer a => cases a <;> simp_all [VRel]
  | _ => simp [VRel] at h
theorem inv_sl {sz b o l c : Nat} (h : VRel ρ (.sl sz b o l c) v') : ∃ a l' c', v' = .slice (some a) l' c' ∧ SRel ρ sz b o l c a l' c' := by
  cases v' with
  | slice a l' c' => cases a with
    | none => simp [VRel] at h
    | some a => exact ⟨a, l', c', rfl, by simpa [VRel] using h⟩
  | _ => simp [VRel] at h
theorem inv_nils (h : VRel ρ .nils v') : v' = .slice none 0 0 := by
  cases v' with
  | slice a l' c' => cases a <;> cases l' <;> cases c' <;> simp_all [VRel]
  | _ => simp [VRel] at h
theorem inv_map {b : Nat} (h : VRel ρ (.map b) v') : ∃ r, v' = .map (some r) ∧ (ρ b = some none ∨ ∃ W, ρ b = some (some W) ∧ r = W.blk) := by
  cases v' with
  | map a => cases a <;> simp_all [VRel]
  | _ => simp [VRel] at h
theorem inv_nilm (h : VRel ρ .nilm v') : v' = .map none := by
  cases v' with
  | map a => cases a <;> simp_all [VRel]
  | _ => simp [VRel] at h
theorem inv_fn {f : Nat} {x y : List V} (h : VRel ρ (.fn f x y) v') : ∃ x' y', v' = .func (.func f) x' y' ∧ LRel ρ x x'.toList ∧ LRel ρ y y'.toList := by
  cases v' with
  | func g x' y' => cases g with
    | func g => simp only [VRel] at h; obtain ⟨rfl, h1, h2⟩ := h; exact ⟨x', y', rfl, h1, h2⟩
    | _ => simp [VRel] at h
  | _ => simp [VRel] at h
theorem inv_nilf (h : VRel ρ .nilf v') : v' = .nilFunc := by cases v' <;> simp_all [VRel]
theorem inv_iface {t : Nat} {v : V} (h : VRel ρ (.iface t v) v') : ∃ u, v' = .iface t u ∧ VRel ρ v u := by cases v' <;> simp_all [VRel]
theorem inv_nili (h : VRel ρ .nili v') : v' = .nilIface := by cases v' <;> simp_all [VRel]
theorem inv_agg {l : List V} (h : VRel ρ (.agg l) v') : ∃ l', v' = .agg l' ∧ LRel ρ l l'.toList := by cases v' <;> simp_all [VRel]
theorem inv_tup {l : List V} (h : VRel ρ (.tup l) v') : ∃ l', v' = .tuple l' ∧ LRel ρ l l'.toList := by cases v' <;> simp_all [VRel]
end

/-- Are two values of a type one, where at most one is no plain number, bool or nil? 'cst': one of them is a constant. -/
def nilEq (P : Program) (t : Nat) (cst : Bool) (a b : V) : Option Bool := match P.underlying t, a, b with
  | some .bool, .bool x, .bool y => some (x == y)
  | some (.pointer _), .nilp, .nilp => some true
  | some (.pointer _), .nilp, .ptr _ _ => some false
  | some (.pointer _), .ptr _ _, .nilp => some false
  | some (.slice _), .nils, .nils => some true
  | some (.slice _), .nils, .sl .. => some false
  | some (.slice _), .sl .., .nils => some false
  | some (.map _ _), .nilm, .nilm => some true
  | some (.map _ _), .nilm, .map _ => some false
  | some (.map _ _), .map _, .nilm => some false
  | some (.func _ _ _), .nilf, .nilf => some true
  | some (.func _ _ _), .nilf, .fn .. => some false
  | some (.func _ _ _), .fn .., .nilf => some false
  | some (.interface _), .nili, .nili => if cst then some true else none
  | some (.interface _), .nili, .iface _ _ => some false
  | some (.interface _), .iface _ _, .nili => some false
  | some (.interface _), .iface s x, .iface s' y => if s = s' then (match P.info? s, P.underlying s, x, y with
      | some i, some (.int _), .int k a, .int k' b => if i.comparable = true ∧ k = k' then some (a == b) else none
      | _, _, _, _ => none) else some false
  | _, _, _ => none

/-- Fields that are numbers, bools and strings. -/
def fieldsEq (P : Program) (l m : List V) : List Field → Option Bool
  | [] => some true
  | f :: fs => if f.name = "_" then none else (match P.underlying f.type, l[f.offset]?, m[f.offset]? with
    | some (.int _), some (.int k x), some (.int k' y) => if k = k' then (if x = y then fieldsEq P l m fs else some false) else none
    | some .bool, some (.bool x), some (.bool y) => if x = y then fieldsEq P l m fs else some false
    | some .string, some (.str x), some (.str y) => if eqL x y then fieldsEq P l m fs else some false
    | _, _, _ => none)

def aggEq (P : Program) (t : Nat) (l m : List V) : Option Bool := match P.underlying t with
  | some (.struct fs) => if P.stoodInHeld t = false ∧ P.eqGuardType P.depth t = false then fieldsEq P l m fs.toList else none
  | _ => none

/-- A number of which bounds are known beside one that is known. -/
def rngV (op : BinOp) (lo hi c : Int) : Option V := match op with
  | .lss => if hi < c then some (.bool true) else if c ≤ lo then some (.bool false) else none
  | .leq => if hi ≤ c then some (.bool true) else if c < lo then some (.bool false) else none
  | .gtr => if c < lo then some (.bool true) else if hi ≤ c then some (.bool false) else none
  | .geq => if c ≤ lo then some (.bool true) else if hi < c then some (.bool false) else none
  | .eql => if c < lo ∨ hi < c then some (.bool false) else none
  | .neq => if c < lo ∨ hi < c then some (.bool true) else none
  | _ => none

def binV (P : Program) (cst : Bool) (op : BinOp) (t : Nat) (a b : V) : Option V := match a, b with
  | .int k x, .int k' y => (match op with
    | .shl | .shr => shV op k x y
    | _ => if k = k' then intV op k x y else none)
  | .str x, .str y => strV op x y
  | .rng k lo hi, .int k' c => if k = k' then rngV op lo hi c else none
  | .agg l, .agg m => (match op with
    | .eql => (aggEq P t l m).map .bool
    | .neq => (aggEq P t l m).map fun r => .bool !r
    | _ => none)
  | a, b => (match op with
    | .eql => (nilEq P t cst a b).map .bool
    | .neq => (nilEq P t cst a b).map fun r => .bool !r
    | _ => none)

theorem rngV_int {op : BinOp} {k : IntKind} {lo hi c n : Int} {v : V} (h : rngV op lo hi c = some v) (h1 : lo ≤ n) (h2 : n ≤ hi) : intV op k n c = some v ∧ op ≠ .shl ∧ op ≠ .shr := by
  cases op <;> simp only [rngV, reduceCtorEq] at h
  case lss =>
    refine ⟨?_, by simp, by simp⟩
    split at h
    · simp only [Option.some.injEq] at h; subst h
      have : n < c := by omega
      simp only [intV, this, decide_true]
    · split at h
      · simp only [Option.some.injEq] at h; subst h
        have : ¬ (n < c) := by omega
        simp only [intV, this, decide_false]
      · cases h
  case leq =>
    refine ⟨?_, by simp, by simp⟩
    split at h
    · simp only [Option.some.injEq] at h; subst h
      have : n ≤ c := by omega
      simp only [intV, this, decide_true]
    · split at h
      · simp only [Option.some.injEq] at h; subst h
        have : ¬ (n ≤ c) := by omega
        simp only [intV, this, decide_false]
      · cases h
  case gtr =>
    refine ⟨?_, by simp, by simp⟩
    split at h
    · simp only [Option.some.injEq] at h; subst h
      have : n > c := by omega
      simp only [intV, this, decide_true]
    · split at h
      · simp only [Option.some.injEq] at h; subst h
        have : ¬ (n > c) := by omega
        simp only [intV, this, decide_false]
      · cases h
  case geq =>
    refine ⟨?_, by simp, by simp⟩
    split at h
    · simp only [Option.some.injEq] at h; subst h
      have : n ≥ c := by omega
      simp only [intV, this, decide_true]
    · split at h
      · simp only [Option.some.injEq] at h; subst h
        have : ¬ (n ≥ c) := by omega
        simp only [intV, this, decide_false]
      · cases h
  case eql =>
    refine ⟨?_, by simp, by simp⟩
    split at h
    · simp only [Option.some.injEq] at h; subst h
      have : ¬ (n = c) := by omega
      simp [intV, this]
    · cases h
  case neq =>
    refine ⟨?_, by simp, by simp⟩
    split at h
    · simp only [Option.some.injEq] at h; subst h
      have : ¬ (n = c) := by omega
      simp [intV, this]
    · cases h

theorem intV_ok {P : Program} {ρ : Ren} {w : World} {op : BinOp} {k : IntKind} {t : Nat} {x y : Int} {v : V} (h : intV op k x y = some v) (h1 : op ≠ .shl) (h2 : op ≠ .shr) :
    GivesV P (binOp op t (.int k x) (.int k y)) w ρ v := by
  cases op <;> simp only [intV, ne_eq, not_true_eq_false, reduceCtorEq] at h h1 h2 <;>
    first
      | (split at h
         · cases h
         · rename_i hy; simp at h; subst h; exact ⟨_, by simp [binOp, Op.intDiv, hy]; rfl, by simp [VRel]⟩)
      | (simp at h; subst h; exact ⟨_, by simp [binOp, Op.intArith, Op.intBits, Op.intCmp]; rfl, by simp [VRel]⟩)

theorem shV_ok {P : Program} {ρ : Ren} {w : World} {op : BinOp} {k k' : IntKind} {t : Nat} {x y : Int} {v : V} (h : shV op k x y = some v) :
    GivesV P (binOp op t (.int k x) (.int k' y)) w ρ v := by
  unfold shV at h
  split at h
  · cases h
  · rename_i hy
    cases op <;> simp at h <;> subst h <;> exact ⟨_, by simp [binOp, Op.shift, hy]; rfl, by simp [VRel]⟩

theorem strOf_length (x : ByteArray) : (strOf x).length = x.size := by simp [strOf]

theorem strAdd_ok {P : Program} {ρ : Ren} {w : World} {t : Nat} {x y : ByteArray} {v : V} (h : (if (strOf x).length + (strOf y).length < 2 ^ 62 then some (V.str (strOf x ++ strOf y)) else none) = some v) :
    GivesV P (binOp .add t (.string x) (.string y)) w ρ v := by
  split at h
  · rename_i hl
    simp only [Option.some.injEq] at h; subst h
    have hs : ¬ ((x.size + y.size : Nat) : Int) > IntKind.i64.max := by
      rw [strOf_length, strOf_length] at hl
      have : IntKind.i64.max = 9223372036854775807 := by decide
      rw [this]; omega
    refine ⟨.string (x ++ y), ?_, ?_⟩
    · simp only [binOp, Op.stringOp]; rw [if_neg hs]; rfl
    · simp [VRel, strOf]
  · cases h

theorem strV_ok {P : Program} {ρ : Ren} {w : World} {op : BinOp} {t : Nat} {x y : ByteArray} {v : V} (h : strV op (strOf x) (strOf y) = some v) :
    GivesV P (binOp op t (.string x) (.string y)) w ρ v := by
  have e : eqL (strOf x) (strOf y) = (x.toList == y.toList) := by rw [eqL_str, ByteArray.toList_eq, ByteArray.toList_eq]
  have l : lessL (strOf x) (strOf y) = Op.bytesLess x.toList y.toList := by rw [ByteArray.toList_eq, ByteArray.toList_eq]; exact lessL_str _ _
  cases op <;> simp only [strV, reduceCtorEq] at h <;>
    first
      | exact strAdd_ok h
      | (simp at h; subst h; exact ⟨_, by simp only [binOp, Op.stringOp]; rfl, by simp [VRel, e, l]⟩)

theorem equalIn_iface {P : Program} {ρ : Ren} {w : World} {d t s s' : Nat} {ms : Array (String × TypeId)} {x y : V} {x' y' : Value} {r : Bool} (h : (if s = s' then (match P.info? s, P.underlying s, x, y with
      | some i, some (.int _), .int k a, .int k' b => if i.comparable = true ∧ k = k' then some (a == b) else none
      | _, _, _, _ => none) else some false) = some r) (hu : P.underlying t = some (.interface ms)) (hx : VRel ρ x x') (hy : VRel ρ y y') :
    (Op.equalIn (d + 2) t (.iface s x') (.iface s' y')).run P w = .ok r w := by
  split at h
  · rename_i hs; subst hs
    split at h
    · rename_i i k0 k a k' b hi hk
      obtain rfl := inv_int hx; obtain rfl := inv_int hy
      split at h
      · rename_i hc
        obtain ⟨h1, rfl⟩ := hc
        simp only [Option.some.injEq] at h; subst h
        simp [Op.equalIn, run_und hu, run_und hk, typeInfo, hi, h1]
      · cases h
    · cases h
  · rename_i hs
    simp only [Option.some.injEq] at h; subst h
    simp [Op.equalIn, run_und hu, hs]

set_option maxHeartbeats 1600000 in
theorem run_equalIn {P : Program} {ρ : Ren} {w : World} {d t : Nat} {cst : Bool} {a b : V} {a' b' : Value} {r : Bool} (h : nilEq P t cst a b = some r) (ha : VRel ρ a a') (hb : VRel ρ b b') :
    (Op.equalIn (d + 2) t a' b').run P w = .ok r w := by
  unfold nilEq at h
  split at h <;> (try cases h) <;> rename_i hu <;>
    first
    | (obtain rfl := inv_bool ha; obtain rfl := inv_bool hb; simp [Op.equalIn, run_und hu])
    | (obtain rfl := inv_nilp ha; obtain rfl := inv_nilp hb; simp [Op.equalIn, run_und hu])
    | (obtain rfl := inv_nilp ha; obtain ⟨_, rfl, _⟩ := inv_ptr hb; simp [Op.equalIn, run_und hu])
    | (obtain rfl := inv_nilp hb; obtain ⟨_, rfl, _⟩ := inv_ptr ha; simp [Op.equalIn, run_und hu])
    | (obtain rfl := inv_nils ha; obtain rfl := inv_nils hb; simp [Op.equalIn, run_und hu])
    | (obtain rfl := inv_nils ha; obtain ⟨_, _, _, rfl, _⟩ := inv_sl hb; simp [Op.equalIn, run_und hu])
    | (obtain rfl := inv_nils hb; obtain ⟨_, _, _, rfl, _⟩ := inv_sl ha; simp [Op.equalIn, run_und hu])
    | (obtain rfl := inv_nilm ha; obtain rfl := inv_nilm hb; simp [Op.equalIn, run_und hu])
    | (obtain rfl := inv_nilm ha; obtain ⟨_, rfl, _⟩ := inv_map hb; simp [Op.equalIn, run_und hu])
    | (obtain rfl := inv_nilm hb; obtain ⟨_, rfl, _⟩ := inv_map ha; simp [Op.equalIn, run_und hu])
    | (obtain rfl := inv_nilf ha; obtain rfl := inv_nilf hb; simp [Op.equalIn, run_und hu])
    | (obtain rfl := inv_nilf ha; obtain ⟨_, _, rfl, _⟩ := inv_fn hb; simp [Op.equalIn, run_und hu])
    | (obtain rfl := inv_nilf hb; obtain ⟨_, _, rfl, _⟩ := inv_fn ha; simp [Op.equalIn, run_und hu])
    | (obtain rfl := inv_nili ha; obtain rfl := inv_nili hb; simp [Op.equalIn, run_und hu]; split at h <;> simp_all)
    | (obtain rfl := inv_nili ha; obtain ⟨_, rfl, _⟩ := inv_iface hb; simp [Op.equalIn, run_und hu])
    | (obtain rfl := inv_nili hb; obtain ⟨_, rfl, _⟩ := inv_iface ha; simp [Op.equalIn, run_und hu])
    | (obtain ⟨x', rfl, hx⟩ := inv_iface ha; obtain ⟨y', rfl, hy⟩ := inv_iface hb; exact equalIn_iface h hu hx hy)

def isC : Operand → Bool
  | .const _ => true
  | _ => false

theorem eqGuard_other {P : Program} {w : World} {op : BinOp} {t : Nat} {x y : Operand} {a b : Value} (h : op ≠ .eql ∧ op ≠ .neq ∨
    ((a = .nilIface → b = .nilIface → (isC x || isC y) = true) ∧ (∀ l m, a = .agg l → b ≠ .agg m))) : (eqGuard op t x y a b).run P w = .ok () w := by
  unfold eqGuard
  rcases h with ⟨h1, h2⟩ | ⟨h1, h2⟩
  · cases op <;> first | exact absurd rfl h1 | exact absurd rfl h2 | rfl
  · cases a <;> cases b <;> (try (cases op <;> rfl))
    · have := h1 rfl rfl
      cases x <;> cases y <;> first | (cases op <;> rfl) | (simp [isC] at this)
    · exact absurd rfl (h2 _ _ rfl)

theorem fieldsEq_ok {P : Program} {ρ : Ren} {w : World} {d : Nat} {l m : List V} {xs ys : Array Value} (hl : LRel ρ l xs.toList) (hm : LRel ρ m ys.toList) : ∀ {fs : List Field} {r : Bool}, fieldsEq P l m fs = some r →
    (Op.eqFields (d + 1) xs ys fs).run P w = .ok r w
  | [], r, h => by simp [fieldsEq] at h; subst h; simp [Op.eqFields]
  | f :: fs, r, h => by
    simp only [fieldsEq] at h
    split at h
    · cases h
    · rename_i hn
      have cell : ∀ (b : V → Prop) (l : List V) (xs : Array Value) (v : V), LRel ρ l xs.toList → l[f.offset]? = some v → aggB P f.type = some false → ∃ v', (part f.type xs f.offset).run P w = .ok v' w ∧ VRel ρ v v' := fun b l xs v hl hv ha => by
        obtain ⟨v', h1, h2⟩ := hl.get _ _ hv
        have h1' : xs[f.offset]? = some v' := by simpa using h1
        exact ⟨v', by simp [part, run_aggB ha, h1'], h2⟩
      split at h
      · rename_i q k x k' y hu e1 e2
        have ha : aggB P f.type = some false := by simp [aggB, hu]
        obtain ⟨a', p1, q1⟩ := cell (fun _ => True) l xs _ hl e1 ha
        obtain ⟨b', p2, q2⟩ := cell (fun _ => True) m ys _ hm e2 ha
        obtain rfl := inv_int q1; obtain rfl := inv_int q2
        split at h
        · rename_i hk; subst hk
          have he : (Op.equalIn (d + 1) f.type (.int k x) (.int k y)).run P w = .ok (x == y) w := by simp [Op.equalIn, run_und hu]
          split at h
          · rename_i hxy; subst hxy
            have ih := fieldsEq_ok (w := w) (d := d) hl hm h
            simp [Op.eqFields, hn, p1, p2, he, ih]
          · rename_i hxy
            simp only [Option.some.injEq] at h; subst h
            simp [Op.eqFields, hn, p1, p2, he, hxy]
        · cases h
      · rename_i x y hu e1 e2
        have ha : aggB P f.type = some false := by simp [aggB, hu]
        obtain ⟨a', p1, q1⟩ := cell (fun _ => True) l xs _ hl e1 ha
        obtain ⟨b', p2, q2⟩ := cell (fun _ => True) m ys _ hm e2 ha
        obtain rfl := inv_bool q1; obtain rfl := inv_bool q2
        have he : (Op.equalIn (d + 1) f.type (.bool x) (.bool y)).run P w = .ok (x == y) w := by simp [Op.equalIn, run_und hu]
        split at h
        · rename_i hxy; subst hxy
          have ih := fieldsEq_ok (w := w) (d := d) hl hm h
          simp [Op.eqFields, hn, p1, p2, he, ih]
        · rename_i hxy
          simp only [Option.some.injEq] at h; subst h
          simp [Op.eqFields, hn, p1, p2, he, hxy]
      · rename_i x y hu e1 e2
        have ha : aggB P f.type = some false := by simp [aggB, hu]
        obtain ⟨a', p1, q1⟩ := cell (fun _ => True) l xs _ hl e1 ha
        obtain ⟨b', p2, q2⟩ := cell (fun _ => True) m ys _ hm e2 ha
        obtain ⟨s, rfl, rfl⟩ := inv_str q1; obtain ⟨s', rfl, rfl⟩ := inv_str q2
        have he : (Op.equalIn (d + 1) f.type (.string s) (.string s')).run P w = .ok (s == s') w := by simp [Op.equalIn, run_und hu]
        have hq : (s == s') = eqL (strOf s) (strOf s') := by
          have := strV_ok (P := P) (ρ := ρ) (w := w) (t := f.type) (op := .eql) (x := s) (y := s') (v := .bool (eqL (strOf s) (strOf s'))) rfl
          obtain ⟨v', g1, g2⟩ := this
          obtain rfl := inv_bool g2
          rw [beq_toListBytes]
          simpa [binOp, Op.stringOp] using g1
        rw [hq] at he
        split at h
        · rename_i hxy
          have ih := fieldsEq_ok (w := w) (d := d) hl hm h
          simp [Op.eqFields, hn, p1, p2, he, hxy, ih]
        · rename_i hxy
          simp only [Option.some.injEq] at h; subst h
          simp [Op.eqFields, hn, p1, p2, he, hxy]
      · cases h

theorem aggEq_ok {P : Program} {ρ : Ren} {w : World} {op : BinOp} {t : Nat} {x y : Operand} {l m : List V} {xs ys : Array Value} {r : Bool} (hl : LRel ρ l xs.toList) (hm : LRel ρ m ys.toList) (h : aggEq P t l m = some r) :
    (eqGuard op t x y (.agg xs) (.agg ys)).run P w = .ok () w ∧ (Op.equal t (.agg xs) (.agg ys)).run P w = .ok r w := by
  unfold aggEq at h
  split at h
  · rename_i fs hu
    split at h
    · rename_i hc
      have hf : P.fieldsOf t = fs := by simp [Program.fieldsOf, hu]
      refine ⟨?_, ?_⟩
      · unfold eqGuard
        cases op <;> simp [hc.2]
      · have := run_equalIn_struct (P := P) (w := w) 9999 t xs ys (by rw [hf]; exact hu) hc.1
        show (Op.equalIn (9999 + 1) t (.agg xs) (.agg ys)).run P w = _
        rw [this, hf]
        exact fieldsEq_ok (d := 9998) hl hm h
    · cases h
  · cases h

theorem binV_ok {P : Program} {ρ : Ren} {w : World} {op : BinOp} {t : Nat} {x y : Operand} {a b : V} {a' b' : Value} {v : V} (h : binV P (isC x || isC y) op t a b = some v) (ha : VRel ρ a a') (hb : VRel ρ b b') :
    GivesV P (do eqGuard op t x y a' b'; binOp op t a' b') w ρ v := by
  unfold binV at h
  split at h
  · rename_i k n k' m
    obtain rfl := inv_int ha; obtain rfl := inv_int hb
    have g := eqGuard_other (P := P) (w := w) (op := op) (t := t) (x := x) (y := y) (a := .int k n) (b := .int k' m) (.inr ⟨(fun h => by cases h), (fun _ _ h => by cases h)⟩)
    have key : GivesV P (binOp op t (.int k n) (.int k' m)) w ρ v := by
      split at h
      · exact shV_ok h
      · exact shV_ok h
      · rename_i h1 h2
        split at h
        · rename_i hk; subst hk; exact intV_ok h h1 h2
        · cases h
    obtain ⟨v', h1, h2⟩ := key
    exact ⟨v', by simp [g, h1], h2⟩
  · obtain ⟨s, rfl, rfl⟩ := inv_str ha; obtain ⟨s', rfl, rfl⟩ := inv_str hb
    have g := eqGuard_other (P := P) (w := w) (op := op) (t := t) (x := x) (y := y) (a := .string s) (b := .string s') (.inr ⟨(fun h => by cases h), (fun _ _ h => by cases h)⟩)
    obtain ⟨v', h1, h2⟩ := strV_ok (P := P) (ρ := ρ) (w := w) (t := t) h
    exact ⟨v', by simp [g, h1], h2⟩
  · rename_i k lo hi k' c
    obtain rfl := inv_int hb
    obtain ⟨n, rfl, r1, r2⟩ := inv_rng ha
    split at h
    · rename_i hk; subst hk
      obtain ⟨q1, q2, q3⟩ := rngV_int (k := k) h r1 r2
      have g := eqGuard_other (P := P) (w := w) (op := op) (t := t) (x := x) (y := y) (a := .int k n) (b := .int k c) (.inr ⟨(fun h => by cases h), (fun _ _ h => by cases h)⟩)
      obtain ⟨v', h1, h2⟩ := intV_ok (P := P) (ρ := ρ) (w := w) (t := t) q1 q2 q3
      exact ⟨v', by simp [g, h1], h2⟩
    · cases h
  · rename_i l m
    obtain ⟨xs, rfl, hl⟩ := inv_agg ha; obtain ⟨ys, rfl, hm⟩ := inv_agg hb
    split at h
    · simp only [Option.map_eq_some_iff] at h
      obtain ⟨r, hr, rfl⟩ := h
      obtain ⟨g1, g2⟩ := aggEq_ok (P := P) (w := w) (op := .eql) (x := x) (y := y) hl hm hr
      have e : binOp .eql t (.agg xs) (.agg ys) = (do pure (.bool (← Op.equal t (.agg xs) (.agg ys)))) := rfl
      exact ⟨.bool r, by simp [g1, e, g2], by simp [VRel]⟩
    · simp only [Option.map_eq_some_iff] at h
      obtain ⟨r, hr, rfl⟩ := h
      obtain ⟨g1, g2⟩ := aggEq_ok (P := P) (w := w) (op := .neq) (x := x) (y := y) hl hm hr
      have e : binOp .neq t (.agg xs) (.agg ys) = (do pure (.bool (!(← Op.equal t (.agg xs) (.agg ys))))) := rfl
      exact ⟨.bool !r, by simp [g1, e, g2], by simp [VRel]⟩
    · cases h
  · rename_i n1 n2 n3 n4
    have key : ∀ r, nilEq P t (isC x || isC y) a b = some r → (eqGuard op t x y a' b').run P w = .ok () w ∧ (Op.equal t a' b').run P w = .ok r w := fun r hr => by
      refine ⟨eqGuard_other (.inr ⟨fun h1 h2 => ?_, fun l m h1 h2 => ?_⟩), run_equalIn (d := 9998) hr ha hb⟩
      · subst h1; subst h2
        cases a <;> simp [VRel] at ha <;> cases b <;> simp [VRel] at hb <;> (unfold nilEq at hr; split at hr <;> simp_all)
      · subst h1; subst h2
        cases a <;> simp [VRel] at ha <;> cases b <;> simp [VRel] at hb <;> (unfold nilEq at hr; split at hr <;> simp_all)
    have np : ∀ r, nilEq P t (isC x || isC y) a b = some r → (binOp .eql t a' b' = do pure (.bool (← Op.equal t a' b'))) ∧ (binOp .neq t a' b' = do pure (.bool (!(← Op.equal t a' b')))) := fun r hr => by
      unfold nilEq at hr
      split at hr <;> (try cases hr) <;>
        first
        | (obtain rfl := inv_bool ha; obtain rfl := inv_bool hb; exact ⟨rfl, rfl⟩)
        | (obtain rfl := inv_nilp ha; obtain rfl := inv_nilp hb; exact ⟨rfl, rfl⟩)
        | (obtain rfl := inv_nilp ha; obtain ⟨_, rfl, _⟩ := inv_ptr hb; exact ⟨rfl, rfl⟩)
        | (obtain rfl := inv_nilp hb; obtain ⟨_, rfl, _⟩ := inv_ptr ha; exact ⟨rfl, rfl⟩)
        | (obtain rfl := inv_nils ha; obtain rfl := inv_nils hb; exact ⟨rfl, rfl⟩)
        | (obtain rfl := inv_nils ha; obtain ⟨_, _, _, rfl, _⟩ := inv_sl hb; exact ⟨rfl, rfl⟩)
        | (obtain rfl := inv_nils hb; obtain ⟨_, _, _, rfl, _⟩ := inv_sl ha; exact ⟨rfl, rfl⟩)
        | (obtain rfl := inv_nilm ha; obtain rfl := inv_nilm hb; exact ⟨rfl, rfl⟩)
        | (obtain rfl := inv_nilm ha; obtain ⟨_, rfl, _⟩ := inv_map hb; exact ⟨rfl, rfl⟩)
        | (obtain rfl := inv_nilm hb; obtain ⟨_, rfl, _⟩ := inv_map ha; exact ⟨rfl, rfl⟩)
        | (obtain rfl := inv_nilf ha; obtain rfl := inv_nilf hb; exact ⟨rfl, rfl⟩)
        | (obtain rfl := inv_nilf ha; obtain ⟨_, _, rfl, _⟩ := inv_fn hb; exact ⟨rfl, rfl⟩)
        | (obtain rfl := inv_nilf hb; obtain ⟨_, _, rfl, _⟩ := inv_fn ha; exact ⟨rfl, rfl⟩)
        | (obtain rfl := inv_nili ha; obtain rfl := inv_nili hb; exact ⟨rfl, rfl⟩)
        | (obtain rfl := inv_nili ha; obtain ⟨_, rfl, _⟩ := inv_iface hb; exact ⟨rfl, rfl⟩)
        | (obtain rfl := inv_nili hb; obtain ⟨_, rfl, _⟩ := inv_iface ha; exact ⟨rfl, rfl⟩)
        | (obtain ⟨_, rfl, _⟩ := inv_iface hb; obtain ⟨_, rfl, _⟩ := inv_iface ha; exact ⟨rfl, rfl⟩)
    split at h
    · simp only [Option.map_eq_some_iff] at h
      obtain ⟨r, hr, rfl⟩ := h
      obtain ⟨g1, g2⟩ := key r hr
      exact ⟨.bool r, by simp [g1, (np r hr).1, g2], by simp [VRel]⟩
    · simp only [Option.map_eq_some_iff] at h
      obtain ⟨r, hr, rfl⟩ := h
      obtain ⟨g1, g2⟩ := key r hr
      exact ⟨.bool !r, by simp [g1, (np r hr).2, g2], by simp [VRel]⟩
    · cases h

end Go.Proofs.YtgihdlhoaimlpaaGreatDoor.AM
