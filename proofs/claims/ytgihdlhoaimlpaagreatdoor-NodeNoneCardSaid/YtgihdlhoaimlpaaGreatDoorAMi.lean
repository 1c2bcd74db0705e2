/- The abstract machine: the operations that read no memory, all of them. -/
import Derived.Test.YtgihdlhoaimlpaaGreatDoorAMh
namespace Go.Proofs.YtgihdlhoaimlpaaGreatDoor.AM
set_option autoImplicit false
set_option linter.unusedSimpArgs false
set_option linter.unusedVariables false

def optV (G : Nat) (env : T V) : Option Operand → Option (Option V)
  | none => some none
  | some x => (opV G env x).map some

theorem optV_rel {ρ : Ren} {nt G : Nat} {env : T V} {a : Act} (r : ERel ρ nt env a.tmps) (g : GOK ρ G) {x : Option Operand} {v : Option V} (h : optV G env x = some v) : ORel ρ v (x.map a.eval) := by
  cases x with
  | none => simp [optV] at h; subst h; simp [ORel]
  | some x =>
    simp only [optV, Option.map_eq_some_iff] at h
    obtain ⟨u, h, rfl⟩ := h
    exact opV_rel r g h

/-- An element's address. -/
def idxAddrV (P : Program) (t : Nat) (x i : V) : Option V := match P.underlying t, x, i with
  | some (.array n e), .ptr b o, .int _ i => (match szOf P e with
    | some sz => if 0 ≤ i ∧ i < n then some (.ptr b (o + i.toNat * sz)) else none
    | none => none)
  | some (.slice e), .sl sz b o l _, .int _ i => (match szOf P e with
    | some sz' => if sz' = sz ∧ 0 ≤ i ∧ i < l then some (.ptr b (o + i.toNat * sz)) else none
    | none => none)
  | _, _, _ => none

theorem idxAddrV_ok {P : Program} {ρ : Ren} {w : World} {t : Nat} {x i : V} {x' i' : Value} {v : V} (e : idxAddrV P t x i = some v) (r : VRel ρ x x') (q : VRel ρ i i') :
    GivesV P (Instr.indexAt t x' i') w ρ v := by
  unfold idxAddrV at e
  split at e
  · rename_i n el b o k i hu
    obtain ⟨a, rfl, p⟩ := inv_ptr r
    obtain rfl := inv_int q
    split at e
    · rename_i sz hs
      split at e
      · rename_i hi
        simp only [Option.some.injEq] at e; subst e
        refine ⟨.pointer (some (a.add (i.toNat * sz))), ?_, by simpa only [VRel] using p.add⟩
        simp [Instr.indexAt, asIntOf, run_und hu, Instr.sureAddr, run_szOf hs, hi]
      · cases e
    · cases e
  · rename_i el sz b o l c k i hu
    obtain ⟨a, l', c', rfl, hr⟩ := inv_sl r
    obtain rfl := inv_int q
    split at e
    · rename_i sz' hs
      split at e
      · rename_i hi
        simp only [Option.some.injEq] at e; subst e
        obtain ⟨rfl, h0, h1⟩ := hi
        obtain ⟨rfl, g1, g2, g3⟩ := hr
        have p : PRel ρ b o a := by
          rcases g3 with g3 | g3
          · omega
          · exact g3.1
        refine ⟨.pointer (some (a.add (i.toNat * sz'))), ?_, by simpa only [VRel] using p.add⟩
        simp [Instr.indexAt, asIntOf, run_und hu, Instr.sureAddr, run_szOf hs, h0, h1]
      · cases e
    · cases e
  · cases e

/-- An element of an array's value, or of a string. -/
def indexV (P : Program) (t : Nat) (x i : V) : Option V := match P.underlying t, x, i with
  | some (.array n e), .agg l, .int _ i => (match szOf P e with
    | some sz => if 0 ≤ i ∧ i < n then partV P e l (i.toNat * sz) else none
    | none => none)
  | some .string, .str s, .int _ i => if 0 ≤ i then (s[i.toNat]?).map (fun (c : Nat) => V.int .u8 (Int.ofNat c)) else none
  | _, _, _ => none

theorem indexV_ok {P : Program} {ρ : Ren} {w : World} {t : Nat} {x i : V} {x' i' : Value} {v : V} (e : indexV P t x i = some v) (r : VRel ρ x x') (q : VRel ρ i i') :
    GivesV P (Instr.index t x' i') w ρ v := by
  unfold indexV at e
  split at e
  · rename_i n el l k i hu
    obtain ⟨l', rfl, p⟩ := inv_agg r
    obtain rfl := inv_int q
    split at e
    · rename_i sz hs
      split at e
      · rename_i hi
        obtain ⟨v', h1, h2⟩ := partV_ok (w := w) e p
        refine ⟨v', ?_, h2⟩
        simp [Instr.index, asIntOf, run_und hu, run_szOf hs, hi, h1]
      · cases e
    · cases e
  · rename_i s k i hu
    obtain ⟨s', rfl, rfl⟩ := inv_str r
    obtain rfl := inv_int q
    split at e
    · rename_i hi
      simp only [Option.map_eq_some_iff] at e
      obtain ⟨c, hc, rfl⟩ := e
      simp only [strOf, List.getElem?_map, Option.map_eq_some_iff] at hc
      obtain ⟨u, hu', rfl⟩ := hc
      have hb : s'[i.toNat]? = some u := by
        have hu2 : s'.data[i.toNat]? = some u := by simpa using hu'
        obtain ⟨hlt, e⟩ := Array.getElem?_eq_some_iff.1 hu2
        rw [getElem?_pos s' i.toNat hlt]
        exact congrArg some e
      refine ⟨.int .u8 u.toNat, ?_, by simp [VRel]⟩
      simp [Instr.index, asIntOf, run_und hu, hi, hb]
    · cases e
  · cases e

def V.cells : V → List V
  | .agg l => l
  | v => [v]

theorem cells_rel {ρ : Ren} {v : V} {v' : Value} (r : VRel ρ v v') : LRel ρ v.cells v'.cells.toList := by
  cases v with
  | agg l => obtain ⟨l', rfl, h⟩ := inv_agg r; exact h
  | any =>
    cases v' <;> first
      | (simp only [VRel, Value.oneCell', Bool.false_eq_true] at r; done)
      | (simp only [V.cells, Value.cells, LRel, and_true]; exact r)
  | _ => cases v' <;> simp_all [VRel, V.cells, Value.cells, LRel]

/-- Parts laid into a struct's or an array's cells. -/
def fillV (place : Nat → Option (Nat × Nat)) (cs : List V) : List (Nat × V) → Option (List V)
  | [] => some cs
  | (i, v) :: rest => match place i with
    | none => none
    | some (off, size) => if v.cells.length = size ∧ off + v.cells.length ≤ cs.length then fillV place (put cs off v.cells) rest else none

def PsRel (ρ : Ren) : List (Nat × V) → List (Nat × Value) → Prop
  | [], [] => True
  | (i, v) :: l, (i', v') :: l' => i' = i ∧ VRel ρ v v' ∧ PsRel ρ l l'
  | _, _ => False

theorem foldl_put (c : Array Value) (off : Nat) : ∀ (l : List Value) (k : Nat), (l.zipIdx k).foldl (fun cs (x : Value × Nat) => cs.setIfInBounds (off + x.2) x.1) c = writeAt c (off + k) l := by
  intro l
  induction l generalizing c with
  | nil => intro k; rfl
  | cons v l ih => intro k; simp only [List.zipIdx_cons, List.foldl_cons, writeAt]; rw [ih]; rfl

theorem put_rel {ρ : Ren} {cs l : List V} {cs' : Array Value} {l' : List Value} {o : Nat} (r : LRel ρ cs cs'.toList) (q : LRel ρ l l') (h : o + l.length ≤ cs.length) :
    LRel ρ (put cs o l) (writeAt cs' o l').toList := by
  have hl := r.length
  have hq := q.length
  refine LRel.of_get (by rw [length_put h, Array.length_toList, size_writeAt, ← Array.length_toList, hl]) fun i v hi => ?_
  rw [get_put h] at hi
  simp only [Array.getElem?_toList, get_writeAt]
  rw [Array.length_toList] at hl
  split at hi
  · rename_i hi'
    rw [if_pos (by omega)]
    exact q.get _ v hi
  · rename_i hi'
    rw [if_neg (by omega)]
    simpa using r.get i v hi

theorem fillV_ok {ρ : Ren} {place : Nat → Option (Nat × Nat)} : ∀ {ps : List (Nat × V)} {ps' : List (Nat × Value)} {cs : List V} {cs' : Array Value} {r : List V},
    fillV place cs ps = some r → PsRel ρ ps ps' → LRel ρ cs cs'.toList → ∃ r', Instr.fill place cs' ps' = some r' ∧ LRel ρ r r'.toList
  | [], [], cs, cs', r, h, _, q => by simp [fillV] at h; subst h; exact ⟨cs', rfl, q⟩
  | (i, v) :: l, (i', v') :: l', cs, cs', r, h, p, q => by
    simp only [PsRel] at p
    obtain ⟨rfl, p1, p2⟩ := p
    simp only [fillV] at h
    have hc := cells_rel p1
    have hlen := hc.length
    have hql := q.length
    split at h
    · cases h
    · rename_i off size hp
      split at h
      · rename_i hs
        rw [Array.length_toList] at hlen hql
        obtain ⟨r', g1, g2⟩ := fillV_ok h p2 (put_rel q hc hs.2)
        refine ⟨r', ?_, g2⟩
        have z : (Array.foldl (fun cs (x : Value × Nat) => cs.setIfInBounds (off + x.2) x.1) cs' v'.cells.zipIdx) = writeAt cs' off v'.cells.toList := by
          rw [← Array.foldl_toList]
          have := foldl_put cs' off v'.cells.toList 0
          simpa using this
        simp only [Instr.fill, hp]
        rw [if_neg (by simp; omega)]
        rw [← g1]
        congr 1
      · cases h
  | [], _ :: _, _, _, _, _, p, _ => by simp [PsRel] at p
  | _ :: _, [], _, _, _, _, p, _ => by simp [PsRel] at p

def opP (G : Nat) (env : T V) : List (Nat × Operand) → Option (List (Nat × V))
  | [] => some []
  | (i, x) :: l => match opV G env x, opP G env l with
    | some v, some m => some ((i, v) :: m)
    | _, _ => none

theorem opP_rel {ρ : Ren} {nt G : Nat} {env : T V} {a : Act} (r : ERel ρ nt env a.tmps) (g : GOK ρ G) : ∀ {l : List (Nat × Operand)} {m : List (Nat × V)}, opP G env l = some m →
    PsRel ρ m (l.map fun x => (x.1, a.eval x.2))
  | [], m, h => by simp [opP] at h; subst h; simp [PsRel]
  | (i, x) :: l, m, h => by
    simp only [opP] at h
    split at h
    · rename_i v m' h1 h2
      simp at h; subst h
      simp only [PsRel, List.map_cons]
      exact ⟨trivial, opV_rel r g h1, opP_rel r g h2⟩
    · cases h

def zeroV (P : Program) (t : Nat) : Option V := match P.info? t with
  | some i => (match i.zero with
    | some z => V.of z
    | none => none)
  | none => none

theorem zeroV_ok {P : Program} {ρ : Ren} {w : World} {t : Nat} {v : V} (h : zeroV P t = some v) : ∃ z, (zeroValue t).run P w = .ok z w ∧ VRel ρ v z := by
  unfold zeroV at h
  split at h
  · rename_i i hi
    split at h
    · rename_i z hz
      exact ⟨z, by simp [zeroValue, typeInfo, hi, hz], V.of_rel ρ z v h⟩
    · cases h
  · cases h

def placesV (P : Program) : List Field → Option (List (Nat × Nat))
  | [] => some []
  | f :: l => match szOf P f.type, placesV P l with
    | some n, some m => some ((f.offset, n) :: m)
    | _, _ => none

theorem placesV_ok {P : Program} {w : World} : ∀ {l : List Field} {m : List (Nat × Nat)}, placesV P l = some m →
    (l.mapM fun f => (Prod.mk f.offset <$> sizeOf f.type : Sem (Nat × Nat))).run P w = .ok m w
  | [], m, h => by simp [placesV] at h; subst h; simp
  | f :: l, m, h => by
    simp only [placesV] at h
    split at h
    · rename_i n m' h1 h2
      simp at h; subst h
      simp [List.mapM_cons, run_szOf h1, placesV_ok (w := w) h2]
    · cases h

/-- A struct, or an array, of its parts. -/
def buildV (P : Program) (t : Nat) (ps : List (Nat × V)) : Option V := match P.underlying t, zeroV P t with
  | some (.struct fs), some z => (match placesV P fs.toList with
    | some pl => (fillV (pl[·]?) z.cells ps).map .agg
    | none => none)
  | some (.array _ e), some z => (match szOf P e with
    | some n => (fillV (fun i => some (i * n, n)) z.cells ps).map .agg
    | none => none)
  | _, _ => none

theorem buildV_ok {P : Program} {ρ : Ren} {w : World} {t : Nat} {ps : List (Nat × V)} {ps' : Array (Nat × Value)} {v : V} (h : buildV P t ps = some v) (r : PsRel ρ ps ps'.toList) :
    GivesV P (Instr.build t ps') w ρ v := by
  unfold buildV at h
  split at h
  · rename_i fs z hu hz
    obtain ⟨z', g1, g2⟩ := zeroV_ok (ρ := ρ) (w := w) hz
    split at h
    · rename_i pl hp
      simp only [Option.map_eq_some_iff] at h
      obtain ⟨l, h, rfl⟩ := h
      obtain ⟨l', f1, f2⟩ := fillV_ok h r (cells_rel g2)
      refine ⟨.agg l', ?_, by simpa only [VRel] using f2⟩
      have hm : (fs.mapM fun f => (do pure (f.offset, ← sizeOf f.type) : Sem (Nat × Nat))).run P w = .ok pl.toArray w := by
        rw [Array.mapM_eq_mapM_toList]
        simp [placesV_ok (w := w) hp]
      simp only [Instr.build, Sem.run_bind, g1, Result.andThen_ok, run_und hu, hm]
      have : (fun (x : Nat) => pl.toArray[x]?) = fun (x : Nat) => pl[x]? := by funext x; simp
      simp [this, f1]
    · cases h
  · rename_i n e z hu hz
    obtain ⟨z', g1, g2⟩ := zeroV_ok (ρ := ρ) (w := w) hz
    split at h
    · rename_i sz hs
      simp only [Option.map_eq_some_iff] at h
      obtain ⟨l, h, rfl⟩ := h
      obtain ⟨l', f1, f2⟩ := fillV_ok h r (cells_rel g2)
      refine ⟨.agg l', ?_, by simpa only [VRel] using f2⟩
      simp only [Instr.build, Sem.run_bind, g1, Result.andThen_ok, run_und hu, run_szOf hs]
      simp [f1]
    · cases h
  · cases h

end Go.Proofs.YtgihdlhoaimlpaaGreatDoor.AM
