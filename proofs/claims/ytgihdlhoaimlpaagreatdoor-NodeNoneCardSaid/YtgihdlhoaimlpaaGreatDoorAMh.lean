/- The abstract machine: the operations that read no memory. -/
import Derived.Test.YtgihdlhoaimlpaaGreatDoorAMg
namespace Go.Proofs.YtgihdlhoaimlpaaGreatDoor.AM
set_option autoImplicit false
set_option linter.unusedSimpArgs false
set_option linter.unusedVariables false

def unV (op : UnOp) : V → Option V
  | .int k n => (match op with
    | .neg => intV .sub k 0 n
    | .xor => intV .xor k (if k.signed then -1 else k.max) n
    | _ => none)
  | .bool b => (match op with
    | .not => some (.bool !b)
    | _ => none)
  | _ => none

theorem unV_ok {P : Program} {ρ : Ren} {w : World} {op : UnOp} {x : V} {x' : Value} {v : V} (h : unV op x = some v) (r : VRel ρ x x') : GivesV P (Op.unary op x') w ρ v := by
  unfold unV at h
  split at h
  · obtain rfl := inv_int r
    split at h
    · simp [intV] at h; subst h; exact ⟨_, by simp [Op.unary, Op.intArith]; rfl, by simp [VRel]⟩
    · simp [intV] at h; subst h; exact ⟨_, by simp [Op.unary, Op.intBits]; rfl, by simp [VRel]⟩
    · cases h
  · obtain rfl := inv_bool r
    split at h
    · simp at h; subst h; exact ⟨_, by simp [Op.unary]; rfl, by simp [VRel]⟩
    · cases h
  · cases h

/-- A bound of a slice. -/
def bnd (y : Nat) : V → Option Nat
  | .int _ i => if 0 ≤ i ∧ i ≤ y then some i.toNat else none
  | _ => none

theorem bnd_ok {P : Program} {ρ : Ren} {w : World} {y y' n : Nat} {v : V} {v' : Value} {c : BoundsCode} (h : bnd y v = some n) (r : VRel ρ v v') (hy : y ≤ y') :
    (Instr.sliceBound v' y' c).run P w = .ok n w ∧ n ≤ y := by
  unfold bnd at h
  split at h
  · obtain rfl := inv_int r
    split at h
    · rename_i hi
      simp at h; subst h
      refine ⟨?_, by omega⟩
      rename_i k i
      have : (0 : Int) ≤ i ∧ i ≤ (y' : Int) := ⟨hi.1, by omega⟩
      simp [Instr.sliceBound, asIntOf, this]
    · cases h
  · cases h

/-- The three bounds: from, to, and up to where there is room. -/
def bnds (len cap : Nat) (lo hi mx : Option V) : Option (Nat × Nat × Nat) := do
  let m ← match mx with
    | some v => bnd cap v
    | none => some cap
  let h ← match hi, mx with
    | some v, some _ => bnd m v
    | some v, none => bnd cap v
    | none, none => some len
    | none, some _ => none
  let l ← match lo with
    | some v => bnd h v
    | none => some 0
  some (l, h, m)

def ORel (ρ : Ren) : Option V → Option Value → Prop
  | some v, some v' => VRel ρ v v'
  | none, none => True
  | _, _ => False

theorem bnds_ok {P : Program} {ρ : Ren} {w : World} {s : Bool} {len cap cap' l h m : Nat} {lo hi mx : Option V} {lo' hi' mx' : Option Value}
    (e : bnds len cap lo hi mx = some (l, h, m)) (r1 : ORel ρ lo lo') (r2 : ORel ρ hi hi') (r3 : ORel ρ mx mx') (hc : cap ≤ cap') (hl : len ≤ cap) :
    (Instr.sliceBounds s len cap' lo' hi' mx').run P w = .ok (l, h, if mx.isSome then m else cap') w ∧ l ≤ h ∧ h ≤ m ∧ m ≤ cap ∧ (mx = none → m = cap) := by
  unfold bnds at e
  cases mx with
  | none =>
    cases mx' with
    | some _ => simp [ORel] at r3
    | none =>
      cases hi with
      | none =>
        cases hi' with
        | some _ => simp [ORel] at r2
        | none =>
          cases lo with
          | none =>
            cases lo' with
            | some _ => simp [ORel] at r1
            | none =>
              simp at e; obtain ⟨rfl, rfl, rfl⟩ := e
              exact ⟨by simp [Instr.sliceBounds], Nat.zero_le _, hl, Nat.le_refl _, fun _ => rfl⟩
          | some v =>
            cases lo' with
            | none => simp [ORel] at r1
            | some v' =>
              simp [Option.bind_eq_some_iff] at e
              obtain ⟨a, e, rfl, rfl, rfl⟩ := e
              obtain ⟨g, g'⟩ := bnd_ok (P := P) (w := w) (c := .sliceB) e r1 (Nat.le_refl _)
              exact ⟨by simp [Instr.sliceBounds, g], g', hl, Nat.le_refl _, fun _ => rfl⟩
      | some v =>
        cases hi' with
        | none => simp [ORel] at r2
        | some v' =>
          cases lo with
          | none =>
            cases lo' with
            | some _ => simp [ORel] at r1
            | none =>
              simp [Option.bind_eq_some_iff] at e
              obtain ⟨a, e, rfl, rfl, rfl⟩ := e
              obtain ⟨g, g'⟩ := bnd_ok (P := P) (w := w) (c := if s then .sliceAcap else .sliceAlen) e r2 hc
              exact ⟨by simp [Instr.sliceBounds, g], Nat.zero_le _, g', Nat.le_refl _, fun _ => rfl⟩
          | some u =>
            cases lo' with
            | none => simp [ORel] at r1
            | some u' =>
              simp [Option.bind_eq_some_iff] at e
              obtain ⟨a, e, b, f, rfl, rfl, rfl⟩ := e
              obtain ⟨g, g'⟩ := bnd_ok (P := P) (w := w) (c := if s then .sliceAcap else .sliceAlen) e r2 hc
              obtain ⟨k, k'⟩ := bnd_ok (P := P) (w := w) (c := .sliceB) f r1 (Nat.le_refl _)
              exact ⟨by simp [Instr.sliceBounds, g, k], k', g', Nat.le_refl _, fun _ => rfl⟩
  | some q =>
    cases mx' with
    | none => simp [ORel] at r3
    | some q' =>
      cases hi with
      | none => simp [Option.bind_eq_some_iff] at e
      | some v =>
        cases hi' with
        | none => simp [ORel] at r2
        | some v' =>
          cases lo with
          | none =>
            cases lo' with
            | some _ => simp [ORel] at r1
            | none =>
              simp [Option.bind_eq_some_iff] at e
              obtain ⟨z, e0, a, e, rfl, rfl, rfl⟩ := e
              obtain ⟨j, j'⟩ := bnd_ok (P := P) (w := w) (c := if s then .slice3Acap else .slice3Alen) e0 r3 hc
              obtain ⟨g, g'⟩ := bnd_ok (P := P) (w := w) (c := .slice3B) e r2 (Nat.le_refl _)
              exact ⟨by simp [Instr.sliceBounds, j, g], Nat.zero_le _, g', j', fun h => by cases h⟩
          | some u =>
            cases lo' with
            | none => simp [ORel] at r1
            | some u' =>
              simp [Option.bind_eq_some_iff] at e
              obtain ⟨z, e0, a, e, b, f, rfl, rfl, rfl⟩ := e
              obtain ⟨j, j'⟩ := bnd_ok (P := P) (w := w) (c := if s then .slice3Acap else .slice3Alen) e0 r3 hc
              obtain ⟨g, g'⟩ := bnd_ok (P := P) (w := w) (c := .slice3B) e r2 (Nat.le_refl _)
              obtain ⟨k, k'⟩ := bnd_ok (P := P) (w := w) (c := .slice3C) f r1 (Nat.le_refl _)
              exact ⟨by simp [Instr.sliceBounds, j, g, k], k', g', j', fun h => by cases h⟩

/-- A slice of a slice, or of a string. -/
def sliceV (P : Program) (t : Nat) (x : V) (lo hi mx : Option V) : Option V := match P.underlying t, x with
  | some .string, .str s => if mx.isSome then none else (match bnds s.length s.length lo hi none with
    | some (l, h, _) => some (.str ((s.drop l).take (h - l)))
    | none => none)
  | some (.slice e), .sl sz b o l c => (match bnds l c lo hi mx, szOf P e with
    | some (i, j, m), some n => if n = sz then some (.sl sz b (o + i * sz) (j - i) (m - i)) else none
    | _, _ => none)
  | some (.slice e), .nils => (match bnds 0 0 lo hi mx, szOf P e with
    | some _, some _ => some .nils
    | _, _ => none)
  | _, _ => none

theorem slice_rel {ρ : Ren} {sz b o l c l' c' i j m m' : Nat} {a : Addr} (r : SRel ρ sz b o l c a l' c') (hij : i ≤ j) (hjm : j ≤ m) (hmc : m ≤ c) (hm : (m = c ∧ m' = c') ∨ m' = m) :
    SRel ρ sz b (o + i * sz) (j - i) (m - i) (if m' = i then a else a.add (i * sz)) (j - i) (m' - i) := by
  obtain ⟨rfl, h1, h2, h3⟩ := r
  refine ⟨rfl, by omega, by omega, ?_⟩
  by_cases e : m' = i
  · exact .inl ⟨by omega, by omega⟩
  · rw [if_neg e]
    rcases h3 with h3 | ⟨p, q⟩
    · omega
    · refine .inr ⟨p.add, fun W hW => ?_⟩
      obtain ⟨q1, q2, q3⟩ := q W hW
      have e1 : i * sz + (m - i) * sz = m * sz := by rw [← Nat.add_mul]; congr 1; omega
      have e2 : i * sz + (m' - i) * sz = m' * sz := by rw [← Nat.add_mul]; congr 1; omega
      have e3 : m * sz ≤ c * sz := Nat.mul_le_mul_right _ hmc
      have e4 : m' * sz ≤ c' * sz := Nat.mul_le_mul_right _ (by omega)
      refine ⟨by omega, by omega, fun hlt => ?_⟩
      rcases hm with ⟨rfl, rfl⟩ | rfl
      · rw [q3 (by omega)]
      · rfl

theorem strOf_extract (s : ByteArray) (l h : Nat) : strOf (s.extract l h) = ((strOf s).drop l).take (h - l) := by
  simp only [strOf, ByteArray.data_extract, Array.toList_extract, List.extract_eq_take_drop, List.map_take, List.map_drop]

theorem sliceV_ok {P : Program} {ρ : Ren} {w : World} {t : Nat} {x : V} {x' : Value} {lo hi mx : Option V} {lo' hi' mx' : Option Value} {v : V}
    (e : sliceV P t x lo hi mx = some v) (r : VRel ρ x x') (r1 : ORel ρ lo lo') (r2 : ORel ρ hi hi') (r3 : ORel ρ mx mx') :
    GivesV P (Instr.sliceAt t x' lo' hi' mx') w ρ v := by
  unfold sliceV at e
  split at e
  · rename_i s hu
    split at e
    · cases e
    · rename_i hm
      have hm' : mx = none := by cases mx <;> simp_all
      subst hm'
      have hmx' : mx' = none := by cases mx' <;> simp_all [ORel]
      subst hmx'
      obtain ⟨s', rfl, rfl⟩ := inv_str r
      split at e
      · rename_i l h m hb
        simp only [Option.some.injEq] at e; subst e
        rw [strOf_length] at hb
        obtain ⟨g, g1, g2, g3, g4⟩ := bnds_ok (P := P) (w := w) (s := false) hb r1 r2 r3 (Nat.le_refl _) (Nat.le_refl _)
        refine ⟨.string (s'.extract l h), ?_, by simp [VRel, strOf_extract]⟩
        simp [Instr.sliceAt, Instr.slice, run_und hu, g]
      · cases e
  · rename_i el sz b o l c hu
    obtain ⟨a, l', c', rfl, hr⟩ := inv_sl r
    split at e
    · rename_i i j m n hb hn
      split at e
      · rename_i hs; subst hs
        simp only [Option.some.injEq] at e; subst e
        obtain ⟨g, g1, g2, g3, g4⟩ := bnds_ok (P := P) (w := w) (s := true) hb r1 r2 r3 hr.2.2.1 hr.2.1
        have hl : l' = l := hr.1
        subst hl
        have key := slice_rel (m' := if mx.isSome then m else c') hr g1 g2 g3 (by
          cases mx with
          | none => exact .inl ⟨g4 rfl, by simp⟩
          | some _ => exact .inr (by simp))
        refine ⟨.slice (some (if (if mx.isSome then m else c') = i then a else a.add (i * n))) (j - i) ((if mx.isSome then m else c') - i), ?_, by simpa only [VRel] using key⟩
        simp only [Instr.sliceAt, Instr.slice, Sem.run_bind, run_und hu, Result.andThen_ok, g, run_szOf hn, Sem.run_pure]
        generalize (if mx.isSome = true then m else c') = m'
        by_cases e : m' = i <;> simp [e]
      · cases e
    · cases e
  · rename_i el hu
    obtain rfl := inv_nils r
    split at e
    · rename_i q n hb hn0
      obtain ⟨i, j, m⟩ := q
      simp only [Option.some.injEq] at e; subst e
      obtain ⟨g, g1, g2, g3, g4⟩ := bnds_ok (P := P) (w := w) (s := true) hb r1 r2 r3 (Nat.le_refl _) (Nat.le_refl _)
      have hm : (if mx.isSome then m else 0) = 0 := by split <;> omega
      have hi : i = 0 := by omega
      have hj : j = 0 := by omega
      subst hi; subst hj
      have hn := run_szOf hn0 w
      refine ⟨.slice none 0 0, ?_, by simp [VRel]⟩
      simp only [Instr.sliceAt, Instr.slice, Sem.run_bind, run_und hu, Result.andThen_ok, g, hn, Sem.run_pure, hm]
      simp
    · cases e
  · cases e

end Go.Proofs.YtgihdlhoaimlpaaGreatDoor.AM
