/- The abstract machine: memory made and written. -/
import Derived.Test.YtgihdlhoaimlpaaGreatDoorAMj
namespace Go.Proofs.YtgihdlhoaimlpaaGreatDoor.AM
set_option autoImplicit false
set_option linter.unusedSimpArgs false
set_option linter.unusedVariables false

/-- What an operation that may turn the heap does: a value (or none, told as the empty tuple), and a step. -/
def Moves (P : Program) (s : Sem Next) (w : World) (ρ : Ren) (h : H) (v : V) (h' : H) : Prop :=
  ∃ ρ' w', Step ρ h w ρ' h' w' ∧ ((∃ v', s.run P w = .ok (.value v') w' ∧ VRel ρ' v v') ∨ (s.run P w = .ok .skip w' ∧ v = .tup []))
def MovesV (P : Program) (s : Sem Value) (w : World) (ρ : Ren) (h : H) (v : V) (h' : H) : Prop :=
  ∃ ρ' w' v', Step ρ h w ρ' h' w' ∧ s.run P w = .ok v' w' ∧ VRel ρ' v v'
def MovesU (P : Program) (s : Sem Unit) (w : World) (ρ : Ren) (h : H) (h' : H) : Prop :=
  ∃ ρ' w', Step ρ h w ρ' h' w' ∧ s.run P w = .ok () w'

theorem MovesV.toNext {P : Program} {s : Sem Value} {w : World} {ρ : Ren} {h h' : H} {v : V} (m : MovesV P s w ρ h v h') : Moves P (do pure (.value (← s))) w ρ h v h' := by
  obtain ⟨ρ', w', v', h1, h2, h3⟩ := m
  exact ⟨ρ', w', h1, .inl ⟨v', by simp [h2], h3⟩⟩
theorem MovesU.toNext {P : Program} {s : Sem Unit} {w : World} {ρ : Ren} {h h' : H} (m : MovesU P s w ρ h h') : Moves P (do s; pure .skip) w ρ h (.tup []) h' := by
  obtain ⟨ρ', w', h1, h2⟩ := m
  exact ⟨ρ', w', h1, .inr ⟨by simp [h2], rfl⟩⟩

theorem PRel.new {ρ : Ren} {b k sz f : Nat} : PRel (upd ρ b (some (some ⟨k, 0, sz, f⟩))) b 0 ⟨k, 0, none⟩ :=
  ⟨rfl, .inr ⟨⟨k, 0, sz, f⟩, by simp [upd], rfl, rfl⟩⟩

theorem new_row {ρ : Ren} {h : H} {w : World} {e fin : Nat} {cs : List V} {c : Array Value} {fr : Nat × Nat} {opn : Bool} (s : Sim ρ h w) (hf : ρ h.n = none) (r : LRel ρ cs (c.toList.take cs.length))
    (hfin : cs.length ≤ fin) (hc : fin ≤ c.size) (ho : opn = false → fin = cs.length) (hfr : fr.1 = fr.2 ∨ fin ≤ fr.1) :
    Step ρ h w (upd ρ h.n (some (some ⟨w.heap.size, 0, cs.length, fin⟩))) (h.new (.row e cs opn false)) (w.alloc (.cells c e fr)) := by
  refine step_new s hf rfl (by simp) rfl rfl rfl (fun k hk => by show (w.heap.push _)[k]? = _; rw [Array.getElem?_push, if_neg (by omega)]) ?_
  refine ⟨c, fr, by show (w.heap.push _)[w.heap.size]? = _; simp, rfl, by simpa using hfin, hc, fun h => by simp [ho h], fun i v hi => ?_, fun _ => hfr⟩
  obtain ⟨v', h1, h2⟩ := r.get i v hi
  rw [List.getElem?_take] at h1
  split at h1
  · exact ⟨v', by simpa using h1, h2.mono (upd_ext hf) _ _⟩
  · cases h1

theorem new_row' {ρ : Ren} {h : H} {w : World} {e : Nat} {cs : List V} {c : Array Value} (s : Sim ρ h w) (hf : ρ h.n = none) (r : LRel ρ cs c.toList) :
    Step ρ h w (upd ρ h.n (some (some ⟨w.heap.size, 0, cs.length, cs.length⟩))) (h.new (.row e cs false false)) (w.alloc (.cells c e)) := by
  have hl := r.length
  rw [Array.length_toList] at hl
  refine new_row s hf ?_ (Nat.le_refl _) (by omega) (fun _ => rfl) (.inl rfl)
  rwa [List.take_of_length_le (by simp; omega)]

def allocV (P : Program) (h : H) (t : Nat) : Option (V × H) := (zeroV P t).map fun z => (.ptr h.n 0, h.new (.row t z.cells false false))
def boxV (h : H) (t : Nat) (v : V) : V × H := (.ptr h.n 0, h.new (.row t v.cells false false))

theorem Fresh.one {ρ : Ren} {h h' : H} (f : Fresh ρ h h') (hn : h.n < h'.n) : ρ h.n = none := f _ (Nat.le_refl _) hn

theorem newVar_ok {P : Program} {ρ : Ren} {h : H} {w : World} {t : Nat} {v : V} {v' : Value} (s : Sim ρ h w) (hf : ρ h.n = none) (r : VRel ρ v v') :
    MovesV P (do pure (.pointer (some (← newVar t v')))) w ρ h (.ptr h.n 0) (h.new (.row t v.cells false false)) := by
  refine ⟨_, _, .pointer (some ⟨w.heap.size, 0, none⟩), new_row' (e := t) s hf (cells_rel r), ?_, ?_⟩
  · simp [newVar, newRow]
  · simp only [VRel]; exact PRel.new

theorem allocV_ok {P : Program} {ρ : Ren} {h h' : H} {w : World} {t : Nat} {v : V} (e : allocV P h t = some (v, h')) (s : Sim ρ h w) (f : Fresh ρ h h') :
    MovesV P (Instr.alloc t true (.tuple #[])) w ρ h v h' := by
  simp only [allocV, Option.map_eq_some_iff] at e
  obtain ⟨z, hz, e⟩ := e
  simp only [Prod.mk.injEq] at e; obtain ⟨rfl, rfl⟩ := e
  obtain ⟨z', z1, z2⟩ := zeroV_ok (ρ := ρ) (w := w) hz
  obtain ⟨ρ', w', v', h1, h2, h3⟩ := newVar_ok (P := P) (t := t) s (f.one (by simp)) z2
  exact ⟨ρ', w', v', h1, by simpa [Instr.alloc, z1] using h2, h3⟩

/-- A store. -/
def storeV (P : Program) (h : H) (t : Nat) (x v : V) : Option H := match x with
  | .ptr b o => (match h.get b with
    | some (.row e cs opn false) => (match szOf P t with
      | some n => if n = v.cells.length ∧ o + n ≤ cs.length ∧ v.cells.all V.one = true then some (h.put b (.row e (put cs o v.cells) opn false)) else none
      | none => none)
    | _ => none)
  | _ => none

theorem storeV_ok {P : Program} {ρ : Ren} {h h' : H} {w : World} {t : Nat} {x v : V} {x' v' : Value} (e : storeV P h t x v = some h') (s : Sim ρ h w) (r : VRel ρ x x') (q : VRel ρ v v') :
    MovesU P (Instr.storeAt t x' v') w ρ h h' := by
  unfold storeV at e
  split at e
  · rename_i b o
    obtain ⟨a, rfl, p⟩ := inv_ptr r
    split at e
    · rename_i el cs opn hb
      split at e
      · rename_i n hn
        split at e
        · rename_i hc
          simp only [Option.some.injEq] at e; subst e
          obtain ⟨rfl, h1, h2⟩ := hc
          have hl := (cells_rel q).length
          rw [Array.length_toList] at hl
          obtain ⟨w', g1, g2⟩ := store_cells (P := P) s hb p h1 (cells_rel q) h2
          refine ⟨ρ, w', g2, ?_⟩
          simp [Instr.storeAt, Instr.sureAddr, storeVar, run_szOf hn, hl, g1]
        · cases e
      · cases e
    · cases e
  · cases e

/-- A list of n cells, the zero over and over. -/
def zerosV (z : List V) : Nat → List V
  | 0 => []
  | n + 1 => z ++ zerosV z n

theorem zerosV_length (z : List V) (n : Nat) : (zerosV z n).length = n * z.length := by
  induction n with
  | zero => simp [zerosV]
  | succ n ih => simp [zerosV, ih, Nat.add_mul, Nat.add_comm]

theorem zerosV_get (z : List V) : ∀ (n i : Nat), i < n * z.length → (zerosV z n)[i]? = z[i % z.length]? := by
  intro n
  induction n with
  | zero => intro i h; omega
  | succ n ih =>
    intro i h
    rw [Nat.add_mul, Nat.one_mul] at h
    simp only [zerosV]
    by_cases hi : i < z.length
    · rw [List.getElem?_append_left hi, Nat.mod_eq_of_lt hi]
    · rw [List.getElem?_append_right (by omega), ih _ (by omega)]
      congr 1
      rw [← Nat.mod_eq_sub_mod (by omega)]

theorem zeros_rel {ρ : Ren} {z : List V} {z' : Array Value} (r : LRel ρ z z'.toList) (n k : Nat) (hk : k = n * z.length) :
    LRel ρ (zerosV z n) ((Array.range k).map (fun i => z'[i % z'.size]!)).toList := by
  have hl := r.length
  rw [Array.length_toList] at hl
  refine LRel.of_get (by simp [zerosV_length, hk]) fun i v hi => ?_
  have hlt : i < n * z.length := by
    have := (List.getElem?_eq_some_iff.1 hi).1
    rwa [zerosV_length] at this
  rw [zerosV_get z n i hlt] at hi
  obtain ⟨v', h1, h2⟩ := r.get _ v hi
  have hz : 0 < z.length := by
    rcases Nat.eq_zero_or_pos z.length with h | h
    · rw [h] at hlt; omega
    · exact h
  refine ⟨v', ?_, h2⟩
  have h1' : z'[i % z'.size]? = some v' := by rw [hl]; simpa using h1
  simp only [Array.toList_map, List.getElem?_map, Array.getElem?_toList]
  have : (Array.range k)[i]? = some i := by simp [hk, hlt]
  rw [this]
  simp only [Option.map_some, Option.some.injEq]
  rw [getElem!_def, h1']

theorem range0 (f : Nat → Value) : (Array.range 0).map f = #[] := by simp

def buildSliceV (P : Program) (h : H) (t n : Nat) (ps : List (Nat × V)) : Option (V × H) := match elemSl P t with
  | some e => (match szOf P e, zeroV P e with
    | some sz, some z => if sz = z.cells.length ∧ 0 < sz ∧ n * sz ≤ 65536 then (fillV (fun i => some (i * sz, sz)) (zerosV z.cells n) ps).map fun cs =>
        (.sl sz h.n 0 n n, h.new (.row e cs false false)) else none
    | _, _ => none)
  | none => none

theorem fillV_length {place : Nat → Option (Nat × Nat)} : ∀ {ps : List (Nat × V)} {cs r : List V}, fillV place cs ps = some r → r.length = cs.length
  | [], cs, r, h => by simp [fillV] at h; rw [h]
  | (i, v) :: l, cs, r, h => by
    simp only [fillV] at h
    split at h
    · cases h
    · split at h
      · rename_i hs
        rw [fillV_length h, length_put hs.2]
      · cases h

theorem SRel.new {ρ : Ren} {b k sz n : Nat} : SRel (upd ρ b (some (some ⟨k, 0, n * sz, n * sz⟩))) sz b 0 n n ⟨k, 0, none⟩ n n := by
  refine ⟨rfl, Nat.le_refl _, Nat.le_refl _, .inr ⟨PRel.new, fun W hW => ?_⟩⟩
  simp [upd] at hW; subst hW
  exact ⟨by simp, by simp, fun _ => rfl⟩

theorem buildSliceV_ok {P : Program} {ρ : Ren} {h h' : H} {w : World} {t n : Nat} {ps : List (Nat × V)} {ps' : Array (Nat × Value)} {v : V} (e : buildSliceV P h t n ps = some (v, h')) (s : Sim ρ h w) (f : Fresh ρ h h')
    (r : PsRel ρ ps ps'.toList) : MovesV P (Instr.buildSlice t n ps') w ρ h v h' := by
  unfold buildSliceV at e
  split at e
  · rename_i el hel
    split at e
    · rename_i sz z hs hz
      split at e
      · rename_i hc
        simp only [Option.map_eq_some_iff] at e
        obtain ⟨cs, hcs, e⟩ := e
        simp only [Prod.mk.injEq] at e; obtain ⟨rfl, rfl⟩ := e
        obtain ⟨z', z1, z2⟩ := zeroV_ok (ρ := ρ) (w := w) hz
        obtain ⟨c1, c2, c3⟩ := hc
        have hlen : cs.length = n * sz := by rw [fillV_length hcs, zerosV_length, c1]
        have hle : ¬ n * sz > 2 ^ 24 := by omega
        by_cases hn : n * sz = 0
        · have hn0 : n = 0 := by
            rcases Nat.mul_eq_zero.1 hn with h | h
            · exact h
            · omega
          subst hn0
          obtain ⟨l', f1, f2⟩ := fillV_ok hcs r (cs' := #[]) (by simp [zerosV, LRel])
          refine ⟨_, _, .slice (some ⟨w.heap.size, 0, none⟩) 0 0, new_row' (e := el) s (f.one (by simp)) f2, ?_, ?_⟩
          · simp [Instr.buildSlice, run_und (elemSl_und hel), run_szOf hs, f1, newRow, range0]
          · simp only [VRel]; exact ⟨rfl, Nat.le_refl _, Nat.le_refl _, .inl ⟨rfl, rfl⟩⟩
        · obtain ⟨l', f1, f2⟩ := fillV_ok hcs r (zeros_rel (cells_rel z2) n (n * sz) (by rw [c1]))
          refine ⟨_, _, .slice (some ⟨w.heap.size, 0, none⟩) n n, new_row' (e := el) s (f.one (by simp)) f2, ?_, ?_⟩
          · simp only [Instr.buildSlice, Sem.run_bind, run_und (elemSl_und hel), Result.andThen_ok, run_szOf hs]
            rw [if_neg hle]
            simp only [hn, if_false, Sem.run_bind, Sem.run_pure, Result.andThen_ok, z1, f1, newRow, run_newObj, World.alloc_eq]
          · simp only [VRel, hlen]; exact SRel.new
      · cases e
    · cases e
  · cases e

def makeSliceV (P : Program) (h : H) (t : Nat) (l c : V) : Option (V × H) := match elemSl P t, l, c with
  | some e, .int _ l, .int _ c => (match P.info? e, zeroV P e with
    | some i, some z => if i.size = z.cells.length ∧ 0 < i.size ∧ 0 ≤ l ∧ l ≤ c ∧ c < 65536 ∧ i.bytes < 65536 then
        some (.sl i.size h.n 0 l.toNat c.toNat, h.new (.row e (zerosV z.cells c.toNat) false false)) else none
    | _, _ => none)
  | _, _, _ => none

theorem wrap64_small {n : Int} (h0 : 0 ≤ n) (h : n < 65536) : IntKind.i64.wrap n = n := by
  simp only [IntKind.wrap, IntKind.bits, IntKind.signed]
  have : n % (2 ^ 64 : Int) = n := Int.emod_eq_of_lt h0 (by omega)
  simp only [this]
  rw [if_neg (by simp; omega)]

theorem makeSliceV_ok {P : Program} {ρ : Ren} {h h' : H} {w : World} {t : Nat} {l c v : V} {l' c' : Value} (e : makeSliceV P h t l c = some (v, h')) (s : Sim ρ h w) (f : Fresh ρ h h')
    (r : VRel ρ l l') (q : VRel ρ c c') : MovesV P (Instr.makeSlice t l' c') w ρ h v h' := by
  unfold makeSliceV at e
  split at e
  · rename_i el k1 l k2 c hel
    obtain rfl := inv_int r; obtain rfl := inv_int q
    split at e
    · rename_i i z hi hz
      split at e
      · rename_i hc
        simp only [Option.some.injEq, Prod.mk.injEq] at e; obtain ⟨rfl, rfl⟩ := e
        obtain ⟨c1, c2, c3, c4, c5, c6⟩ := hc
        obtain ⟨z', z1, z2⟩ := zeroV_ok (ρ := ρ) (w := w) hz
        have hs : szOf P el = some i.size := by simp [szOf, hi]
        have wl := wrap64_small c3 (by omega)
        have wc := wrap64_small (n := c) (by omega) c5
        have hb : ¬ ((i.bytes : Int) * c > 2 ^ 48) := by
          have h1 : (i.bytes : Int) * c ≤ 65536 * 65536 := Int.mul_le_mul (by omega) (by omega) (by omega) (by omega)
          omega
        have key : (do
            let .slice elem ← underlying t | stuck "MakeSlice: slice type expected"
            let len ← asInt (.int k1 l)
            let cap ← asInt (.int k2 c)
            pure (elem, len, cap) : Sem (TypeId × Int × Int)).run P w = .ok (el, l, c) w := by
          simp [run_und (elemSl_und hel), asInt, asIntOf]
        have hcz : (c.toNat : Int) = c := Int.toNat_of_nonneg (by omega)
        have hti : (typeInfo el).run P w = .ok i w := by simp [typeInfo, hi]
        by_cases hn : c.toNat * i.size = 0
        · have hn0 : c.toNat = 0 := by
            rcases Nat.mul_eq_zero.1 hn with h | h
            · exact h
            · omega
          have hl0 : l.toNat = 0 := by omega
          refine ⟨_, _, .slice (some ⟨w.heap.size, 0, none⟩) 0 0, new_row' (e := el) (c := #[]) (cs := zerosV z.cells c.toNat) s (f.one (by simp)) (by simp [hn0, zerosV, LRel]), ?_, ?_⟩
          · simp only [Instr.makeSlice, Sem.run_bind, run_und (elemSl_und hel), Result.andThen_ok, asInt, asIntOf, Sem.run_pure, hti, wl, wc]
            rw [if_neg (by simp; omega)]
            simp [hti, run_szOf hs, hn0, newRow, range0, hl0]
          · simp only [VRel, hl0, hn0]; exact ⟨rfl, Nat.le_refl _, Nat.le_refl _, .inl ⟨rfl, rfl⟩⟩
        · have zr := zeros_rel (cells_rel z2) c.toNat (c.toNat * i.size) (by rw [c1])
          refine ⟨_, _, .slice (some ⟨w.heap.size, 0, none⟩) l.toNat c.toNat, new_row' (e := el) s (f.one (by simp)) zr, ?_, ?_⟩
          · simp only [Instr.makeSlice, Sem.run_bind, run_und (elemSl_und hel), Result.andThen_ok, asInt, asIntOf, Sem.run_pure, hti, wl, wc]
            rw [if_neg (by simp; omega)]
            simp only [Sem.run_bind, hti, Result.andThen_ok, run_askRoom, run_szOf hs, hn, if_false, z1, Sem.run_pure, newRow, run_newObj, World.alloc_eq]
          · simp only [VRel, zerosV_length, ← c1]
            refine ⟨rfl, by omega, Nat.le_refl _, .inr ⟨PRel.new, fun W hW => ?_⟩⟩
            simp [upd] at hW; subst hW
            exact ⟨by simp, by simp, fun _ => rfl⟩
      · cases e
    · cases e
  · cases e

end Go.Proofs.YtgihdlhoaimlpaaGreatDoor.AM
