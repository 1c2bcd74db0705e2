/- The abstract machine: maps, and walks over maps and strings; bytes and strings. -/
import Derived.Test.YtgihdlhoaimlpaaGreatDoorAMl
namespace Go.Proofs.YtgihdlhoaimlpaaGreatDoor.AM
set_option autoImplicit false
set_option linter.unusedSimpArgs false
set_option linter.unusedVariables false

/-- Are two keys one? -/
def sameV : V → V → Option Bool
  | .int k a, .int k' b => if k = k' then some (a == b) else none
  | .str a, .str b => some (eqL a b)
  | .bool a, .bool b => some (a == b)
  | _, _ => none

def findV (k : V) : List (V × V × Nat) → Nat → Option (Option (Nat × V × V × Nat))
  | [], _ => some none
  | e :: es, i => match sameV k e.1 with
    | some true => some (some (i, e))
    | some false => findV k es (i + 1)
    | none => none

/-- Key types whose keys are numbers, texts or bools. -/
def plainKey (P : Program) (t : Nat) : Bool := match P.underlying t with
  | some (.int _) | some .string | some .bool => true
  | _ => false

theorem checkKey_plain' {P : Program} {w : World} {t : Nat} (h : plainKey P t = true) (e : Bool) (v : Value) (n : Nat) : (Instr.checkKey e (n + 1) t v).run P w = .ok () w := by
  unfold plainKey at h
  split at h
  · rename_i hu
    simp only [Instr.checkKey, Sem.run_bind, run_und hu, Result.andThen_ok]
    cases v <;> rfl
  · rename_i hu
    simp only [Instr.checkKey, Sem.run_bind, run_und hu, Result.andThen_ok]
    cases v <;> rfl
  · rename_i hu
    simp only [Instr.checkKey, Sem.run_bind, run_und hu, Result.andThen_ok]
    cases v <;> rfl
  · cases h
theorem checkKey_plain {P : Program} {w : World} {t : Nat} (h : plainKey P t = true) (e : Bool) (v : Value) : (Instr.checkKey e 10000 t v).run P w = .ok () w := checkKey_plain' h e v 9999

theorem ba_beq (a b : ByteArray) : (a == b) = (a.data.toList == b.data.toList) := by
  cases a; cases b; rename_i a b
  cases a; cases b; rename_i a b
  show ((⟨a⟩ : Array UInt8) == ⟨b⟩) = (a == b)
  simp

def fits : TypeDesc → V → Bool
  | .int _, .int _ _ => true
  | .string, .str _ => true
  | .bool, .bool _ => true
  | _, _ => false

theorem sameNow_ok {ρ : Ren} {k e : V} {k' e' : Value} {b : Bool} (h : sameV k e = some b) (r : VRel ρ k k') (q : VRel ρ e e') (d : TypeDesc) (hd : fits d k = true) :
    Instr.sameNow d k' e' = some b := by
  unfold sameV at h
  split at h
  · obtain rfl := inv_int r; obtain rfl := inv_int q
    split at h
    · rename_i hk; subst hk
      cases d <;> simp only [fits, Bool.false_eq_true] at hd
      simpa [Instr.sameNow] using h
    · cases h
  · obtain ⟨s, rfl, rfl⟩ := inv_str r; obtain ⟨s', rfl, rfl⟩ := inv_str q
    cases d <;> simp only [fits, Bool.false_eq_true] at hd
    simp only [Instr.sameNow, Option.some.injEq] at h ⊢
    rw [← h, eqL_str, ba_beq]
  · obtain rfl := inv_bool r; obtain rfl := inv_bool q
    cases d <;> simp only [fits, Bool.false_eq_true] at hd
    simpa [Instr.sameNow] using h
  · cases h

theorem findNow_ok {ρ : Ren} {k : V} {k' : Value} (r : VRel ρ k k') (d : TypeDesc) (hd : fits d k = true) :
    ∀ {es : List (V × V × Nat)} {es' : List MapEntry} {i : Nat} {x : Option (Nat × V × V × Nat)}, findV k es i = some x → EntsRel ρ es es' →
    Instr.findNow d k' es' i = some (x.bind fun y => (es'[y.1 - i]?).map fun e => (y.1, e.val)) ∧ (∀ y, x = some y → i ≤ y.1 ∧ es[y.1 - i]? = some y.2 ∧ sameV k y.2.1 = some true)
  | [], [], i, x, h, _ => by simp [findV] at h; subst h; simp [Instr.findNow]
  | (a, b, c) :: es, e :: es', i, x, h, q => by
    simp only [EntsRel] at q
    simp only [findV] at h
    split at h
    · rename_i hs
      simp only [Option.some.injEq] at h; subst h
      have := sameNow_ok hs r q.1 d hd
      simp [Instr.findNow, this]; exact hs
    · rename_i hs
      have h1 := sameNow_ok hs r q.1 d hd
      obtain ⟨g1, g2⟩ := findNow_ok r d hd h q.2.2.2
      refine ⟨?_, fun y hy => ?_⟩
      · simp only [Instr.findNow, h1, g1]
        cases x with
        | none => rfl
        | some y =>
          have := (g2 y rfl).1
          simp only [Option.bind_some]
          rw [show y.1 - i = (y.1 - (i + 1)) + 1 by omega]
          simp
      · obtain ⟨k1, k2, k3⟩ := g2 y hy
        refine ⟨by omega, ?_, k3⟩
        rw [show y.1 - i = (y.1 - (i + 1)) + 1 by omega]
        simpa using k2
    · cases h
  | [], _ :: _, _, _, _, q => by simp [EntsRel] at q
  | _ :: _, [], _, _, _, q => by simp [EntsRel] at q

/-- A key of its type. -/
def keyFits (P : Program) (t : Nat) (k : V) : Bool := match P.underlying t, k with
  | some (.int _), .int _ _ => true
  | some .string, .str _ => true
  | some .bool, .bool _ => true
  | _, _ => false

theorem keyFits_plain {P : Program} {t : Nat} {k : V} (h : keyFits P t k = true) : plainKey P t = true := by
  unfold keyFits at h; unfold plainKey
  split at h <;> simp_all

theorem EntsRel.get {ρ : Ren} : ∀ {l : List (V × V × Nat)} {l' : List MapEntry}, EntsRel ρ l l' → ∀ (i : Nat) (e : V × V × Nat), l[i]? = some e → ∃ e', l'[i]? = some e' ∧ VRel ρ e.1 e'.key ∧ VRel ρ e.2.1 e'.val ∧ e'.born = e.2.2
  | [], [], _, i, e, h => by simp at h
  | (a, b, c) :: l, e' :: l', r, i, e, h => by
    simp only [EntsRel] at r
    cases i with
    | zero => simp at h; subst h; exact ⟨e', by simp, r.1, r.2.1, r.2.2.1⟩
    | succ i => simpa using EntsRel.get r.2.2.2 i e (by simpa using h)
  | [], _ :: _, r, _, _, _ => by simp [EntsRel] at r
  | _ :: _, [], r, _, _, _ => by simp [EntsRel] at r

theorem findKey_ok {P : Program} {ρ : Ren} {w : World} {t : Nat} {k : V} {k' : Value} {es : List (V × V × Nat)} {es' : List MapEntry} {x : Option (Nat × V × V × Nat)} (hk : keyFits P t k = true) (h : findV k es 0 = some x) (r : VRel ρ k k') (q : EntsRel ρ es es') :
    (Instr.findKey t k' es').run P w = .ok (x.bind fun y => (es'[y.1]?).map fun e => (y.1, e.val)) w ∧ (∀ y, x = some y → es[y.1]? = some y.2 ∧ sameV k y.2.1 = some true) := by
  unfold keyFits at hk
  split at hk
  · rename_i ik k0 n hu
    obtain ⟨g1, g2⟩ := findNow_ok r (.int ik) rfl h q
    refine ⟨?_, fun y hy => ⟨by simpa using (g2 y hy).2.1, (g2 y hy).2.2⟩⟩
    simp only [Instr.findKey, Sem.run_bind, run_und hu, Result.andThen_ok, g1]; simp
  · rename_i s hu
    obtain ⟨g1, g2⟩ := findNow_ok r .string rfl h q
    refine ⟨?_, fun y hy => ⟨by simpa using (g2 y hy).2.1, (g2 y hy).2.2⟩⟩
    simp only [Instr.findKey, Sem.run_bind, run_und hu, Result.andThen_ok, g1]; simp
  · rename_i s hu
    obtain ⟨g1, g2⟩ := findNow_ok r .bool rfl h q
    refine ⟨?_, fun y hy => ⟨by simpa using (g2 y hy).2.1, (g2 y hy).2.2⟩⟩
    simp only [Instr.findKey, Sem.run_bind, run_und hu, Result.andThen_ok, g1]; simp
  · cases hk

def mapTy (P : Program) (t : Nat) : Option (Nat × Nat) := match P.underlying t with
  | some (.map k e) => some (k, e)
  | _ => none
theorem mapTy_und {P : Program} {t k e : Nat} (h : mapTy P t = some (k, e)) : P.underlying t = some (.map k e) := by
  unfold mapTy at h; split at h <;> simp_all

/-- m[k]. -/
def lookupV (P : Program) (h : H) (t : Nat) (m k : V) (ok : Bool) : Option V := match mapTy P t with
  | some (kt, et) => if keyFits P kt k then (match (match m with
      | .nilm => some []
      | .map b => (match h.get b with
        | some (.map es _) => some es
        | _ => none)
      | _ => none) with
    | some es => (match findV k es 0, zeroV P et with
      | some (some y), some _ => some (if ok then .tup [y.2.2.1, .bool true] else y.2.2.1)
      | some none, some z => some (if ok then .tup [z, .bool false] else z)
      | _, _ => none)
    | none => none) else none
  | none => none

theorem lookupV_ok {P : Program} {ρ : Ren} {h : H} {w : World} (s : Sim ρ h w) {t : Nat} {m k : V} {m' k' : Value} {ok : Bool} {v : V} (e : lookupV P h t m k ok = some v) (r : VRel ρ m m') (q : VRel ρ k k') :
    GivesV P (Instr.lookup t m' k' ok) w ρ v := by
  unfold lookupV at e
  split at e
  · rename_i kt et ht
    split at e
    · rename_i hk
      have core : ∀ (es : List (V × V × Nat)) (es' : Array MapEntry), EntsRel ρ es es'.toList → (match findV k es 0, zeroV P et with
          | some (some y), some _ => some (if ok then V.tup [y.2.2.1, .bool true] else y.2.2.1)
          | some none, some z => some (if ok then V.tup [z, .bool false] else z)
          | _, _ => none) = some v →
          (∃ i u, (Instr.findKey kt k' es'.toList).run P w = .ok (some (i, u)) w ∧ ∃ v0, VRel ρ v0 u ∧ v = if ok then .tup [v0, .bool true] else v0) ∨
          ((Instr.findKey kt k' es'.toList).run P w = .ok none w ∧ ∃ z z', (zeroValue et).run P w = .ok z' w ∧ VRel ρ z z' ∧ v = if ok then .tup [z, .bool false] else z) := fun es es' he e => by
        split at e
        · rename_i y z hf hz
          obtain ⟨g1, g2⟩ := findKey_ok (P := P) (w := w) hk hf q he
          obtain ⟨e', k1, k2, k3, k4⟩ := he.get _ _ (g2 y rfl).1
          simp only [Option.some.injEq] at e; subst e
          exact .inl ⟨y.1, e'.val, by rw [g1]; simp only [Option.bind_some, k1, Option.map_some], _, k3, rfl⟩
        · rename_i z hf hz
          obtain ⟨g1, g2⟩ := findKey_ok (P := P) (w := w) hk hf q he
          obtain ⟨z', z1, z2⟩ := zeroV_ok (ρ := ρ) (w := w) hz
          simp only [Option.some.injEq] at e; subst e
          exact .inr ⟨by rw [g1]; rfl, z, z', z1, z2, rfl⟩
        · cases e
      split at e
      · rename_i es hes
        split at hes
        · simp only [Option.some.injEq] at hes; subst hes
          obtain rfl := inv_nilm r
          have hck := checkKey_plain (P := P) (w := w) (keyFits_plain hk) true k'
          rcases core [] #[] (by simp [EntsRel]) e with ⟨i, u, h1, v0, h2, rfl⟩ | ⟨h1, z, z', h2, h3, rfl⟩
          · cases ok
            · exact ⟨u, by simp [Instr.lookup, run_und (mapTy_und ht), hck] at h1 ⊢; simp [h1], h2⟩
            · exact ⟨.tuple #[u, .bool true], by simp [Instr.lookup, run_und (mapTy_und ht), hck] at h1 ⊢; simp [h1], by simp [VRel, LRel, h2]⟩
          · cases ok
            · exact ⟨z', by simp [Instr.lookup, run_und (mapTy_und ht), hck] at h1 ⊢; simp [h1, h2], h3⟩
            · exact ⟨.tuple #[z', .bool false], by simp [Instr.lookup, run_und (mapTy_und ht), hck] at h1 ⊢; simp [h1, h2], by simp [VRel, LRel, h3]⟩
        · rename_i b
          split at hes
          · rename_i es0 clock hb
            simp only [Option.some.injEq] at hes; subst hes
            obtain ⟨r', rfl, q'⟩ := inv_map r
            obtain ⟨es', g1, g2⟩ := s.mapAt hb q'
            have hck := checkKey_plain (P := P) (w := w) (keyFits_plain hk) es'.isEmpty k'
            rcases core es0 es' g2 e with ⟨i, u, h1, v0, h2, rfl⟩ | ⟨h1, z, z', h2, h3, rfl⟩
            · cases ok
              · exact ⟨u, by simp [Instr.lookup, run_und (mapTy_und ht), getObj, Sem.run, g1, hck, h1], h2⟩
              · exact ⟨.tuple #[u, .bool true], by simp [Instr.lookup, run_und (mapTy_und ht), getObj, Sem.run, g1, hck, h1], by simp [VRel, LRel, h2]⟩
            · cases ok
              · exact ⟨z', by simp [Instr.lookup, run_und (mapTy_und ht), getObj, Sem.run, g1, hck, h1, h2], h3⟩
              · exact ⟨.tuple #[z', .bool false], by simp [Instr.lookup, run_und (mapTy_und ht), getObj, Sem.run, g1, hck, h1, h2], by simp [VRel, LRel, h3]⟩
          · cases hes
        · cases hes
      · cases e
    · cases e
  · cases e

end Go.Proofs.YtgihdlhoaimlpaaGreatDoor.AM
