/- The abstract machine: rows of cells written; a block moved on. -/
import Derived.Test.YtgihdlhoaimlpaaGreatDoorAMc
namespace Go.Proofs.YtgihdlhoaimlpaaGreatDoor.AM
set_option autoImplicit false
set_option linter.unusedSimpArgs false
set_option linter.unusedVariables false

def writeAt (c : Array Value) (o : Nat) : List Value → Array Value
  | [] => c
  | v :: r => writeAt (c.setIfInBounds o v) (o + 1) r

theorem size_writeAt : ∀ (l : List Value) (c : Array Value) (o : Nat), (writeAt c o l).size = c.size
  | [], _, _ => rfl
  | v :: r, c, o => by rw [writeAt, size_writeAt r]; simp

theorem get_writeAt : ∀ (l : List Value) (c : Array Value) (o j : Nat), (writeAt c o l)[j]? = if o ≤ j ∧ j < o + l.length ∧ j < c.size then l[j - o]? else c[j]?
  | [], c, o, j => by rw [writeAt, if_neg (by simp; omega)]
  | v :: r, c, o, j => by
    rw [writeAt, get_writeAt r]
    simp only [Array.size_setIfInBounds, List.length_cons]
    by_cases h : o + 1 ≤ j ∧ j < o + 1 + r.length ∧ j < c.size
    · rw [if_pos h, if_pos (by omega)]
      rw [show j - o = (j - (o + 1)) + 1 by omega]
      simp
    · rw [if_neg h]
      by_cases e : j = o
      · subst e
        by_cases hc : j < c.size
        · rw [if_pos (by omega)]; simp [hc]
        · rw [if_neg (by omega)]; simp [hc]
      · rw [if_neg (by omega), Array.getElem?_setIfInBounds_ne (Ne.symm e)]

theorem heap_setCells (b : Nat) (e : TypeId) (fr : Nat × Nat) : ∀ (l : List Value) (o : Nat) (c : Array Value) (w : World), w.heap[b]? = some (.cells c e fr) →
    (w.setCells b o l).heap[b]? = some (.cells (writeAt c o l) e fr)
  | [], _, _, _, h => h
  | v :: r, o, c, w, h => by
    rw [World.setCells, writeAt]
    refine heap_setCells b e fr r (o + 1) _ _ ?_
    simp [World.setCell, Array.getElem?_modify, h]

theorem heap_setCells_ne (b k : Nat) (hk : k ≠ b) : ∀ (l : List Value) (o : Nat) (w : World), (w.setCells b o l).heap[k]? = w.heap[k]?
  | [], _, _ => rfl
  | v :: r, o, w => by
    rw [World.setCells, heap_setCells_ne b k hk r]
    simp [World.setCell, Array.getElem?_modify, Ne.symm hk]

theorem setCells_same (b : Nat) : ∀ (l : List Value) (o : Nat) (w : World), (w.setCells b o l).heap.size = w.heap.size ∧ (w.setCells b o l).tape = w.tape ∧ (w.setCells b o l).os = w.os ∧ (w.setCells b o l).output = w.output
  | [], _, _ => ⟨rfl, rfl, rfl, rfl⟩
  | v :: r, o, w => by
    rw [World.setCells]
    obtain ⟨h1, h2, h3, h4⟩ := setCells_same b r (o + 1) (w.setCell ⟨b, o, none⟩ v)
    exact ⟨by rw [h1]; simp [World.setCell], h2, h3, h4⟩

/-- One-cell values. -/
def V.one : V → Bool
  | .agg _ | .tup _ => false
  | _ => true

theorem one_of_rel {ρ : Ren} {v : V} {v' : Value} (r : VRel ρ v v') (h : v.one = true) : v'.oneCell' = true := by
  cases v <;> cases v' <;> simp_all [VRel, V.one, Value.oneCell']

theorem one_of_rels {ρ : Ren} : ∀ {l : List V} {l' : List Value}, LRel ρ l l' → l.all V.one = true → ∀ v ∈ l', v.oneCell' = true
  | [], [], _, _, v, h => by cases h
  | a :: l, a' :: l', r, h, v, hv => by
    simp only [LRel] at r
    simp only [List.all_cons, Bool.and_eq_true] at h
    cases hv with
    | head => exact one_of_rel r.1 h.1
    | tail _ hv => exact one_of_rels r.2 h.2 v hv
  | [], _ :: _, r, _, _, _ => by simp [LRel] at r
  | _ :: _, [], r, _, _, _ => by simp [LRel] at r

/-- A list written into a list. -/
def put (cs : List V) (o : Nat) (l : List V) : List V := cs.take o ++ l ++ cs.drop (o + l.length)

theorem length_put {cs l : List V} {o : Nat} (h : o + l.length ≤ cs.length) : (put cs o l).length = cs.length := by simp [put]; omega

theorem get_put {cs l : List V} {o : Nat} (h : o + l.length ≤ cs.length) (i : Nat) : (put cs o l)[i]? = if o ≤ i ∧ i < o + l.length then l[i - o]? else cs[i]? := by
  unfold put
  by_cases h1 : i < o
  · rw [if_neg (by omega), List.append_assoc, List.getElem?_append_left (by simp; omega), List.getElem?_take, if_pos h1]
  · by_cases h2 : i < o + l.length
    · rw [if_pos (by omega), List.getElem?_append_left (by simp; omega), List.getElem?_append_right (by simp; omega)]
      congr 1; simp; omega
    · rw [if_neg (by omega), List.getElem?_append_right (by simp; omega), List.getElem?_drop]
      congr 1; simp; omega

/-- The model writes a list of cells into a block that shows an abstract one. -/
theorem store_cells {P : Program} {ρ : Ren} {h : H} {w : World} {b o e : Nat} {cs l : List V} {l' : List Value} {opn : Bool} {a : Addr}
    (s : Sim ρ h w) (hb : h.get b = some (.row e cs opn false)) (p : PRel ρ b o a) (hl : o + l.length ≤ cs.length) (r : LRel ρ l l') (h1 : l.all V.one = true) :
    ∃ w', (storeCells a l').run P w = .ok () w' ∧ Step ρ h w ρ (h.put b (.row e (put cs o l) opn false)) w' := by
  obtain ⟨W, hW, c, fr, g1, g2, g3, g4, g5, g6, g7⟩ := s.live b _ hb
  obtain rfl := p.addr hW
  have hlen := r.length
  refine ⟨w.setCells W.blk (W.sh + o) l', ?_, ?_⟩
  · have := run_storeCells_cells (P := P) W.blk (W.sh + o) l' 0 w (fun j hj => by
        simp only [World.cell?, g1]
        have : W.sh + o + j < c.size := by omega
        simp [this]) (fun j hj => by
        simp only [World.frozen?, g1]
        have := nofr (i := W.sh + o + 0 + j) (g7 rfl) (by omega)
        simp; omega) (one_of_rels r h1)
    simpa using this
  · obtain ⟨z1, z2, z3, z4⟩ := setCells_same W.blk l' (W.sh + o) w
    refine step_put (x := .row e cs opn false) s hb rfl hW z1 z2 z3 z4 (fun k hk => heap_setCells_ne _ _ hk _ _ _) ?_
    refine ⟨writeAt c (W.sh + o) l', fr, heap_setCells _ _ _ _ _ _ _ g1, by rw [length_put hl, g2], g3, by rw [size_writeAt]; exact g4, g5, fun i v hi => ?_, g7⟩
    rw [get_put hl] at hi
    rw [get_writeAt]
    split at hi
    · rename_i hi'
      rw [if_pos (by omega), show W.sh + i - (W.sh + o) = i - o by omega]
      exact r.get _ v hi
    · rename_i hi'
      rw [if_neg (by omega)]
      exact g6 i v hi

/-- What is loaded from a block. -/
theorem load_cells {P : Program} {ρ : Ren} {h : H} {w : World} {b o n e : Nat} {cs : List V} {opn ro : Bool} {a : Addr}
    (s : Sim ρ h w) (hb : h.get b = some (.row e cs opn ro)) (p : PRel ρ b o a) (hn : o + n ≤ cs.length) :
    ∃ l', (loadCells a n).run P w = .ok l'.toArray w ∧ LRel ρ ((cs.drop o).take n) l' ∧ l'.length = n := by
  obtain ⟨W, hW, r⟩ := s.live b _ hb
  obtain rfl := p.addr hW
  obtain ⟨l', h1, h2, h3⟩ := r.cells o n hn
  refine ⟨l', ?_, h1, h2⟩
  have := run_loadCells_list (P := P) (w := w) ⟨W.blk, W.sh + o, none⟩ l' (fun j v hj => by rw [add_eq]; exact h3 j v hj)
  rwa [h2] at this

theorem load_cell {P : Program} {ρ : Ren} {h : H} {w : World} {b o e : Nat} {cs : List V} {opn ro : Bool} {a : Addr} {v : V}
    (s : Sim ρ h w) (hb : h.get b = some (.row e cs opn ro)) (p : PRel ρ b o a) (hv : cs[o]? = some v) :
    ∃ v', (load a).run P w = .ok v' w ∧ VRel ρ v v' := by
  obtain ⟨W, hW, r⟩ := s.live b _ hb
  obtain rfl := p.addr hW
  obtain ⟨v', h1, h2⟩ := r.cell hv
  exact ⟨v', by simp [h1], h2⟩

/-- A block grows where it lies, or a part of it is taken over: the old block goes, a new one takes its place. -/
theorem step_move {ρ : Ren} {h : H} {w w' : World} {b : Nat} {x x' : Blk} {W W' : Win} (s : Sim ρ h w) (hb : h.get b = some x) (hx : x.ro = false) (hW : ρ b = some (some W)) (hf : ρ h.n = none)
    (hWb : W'.blk = W.blk) (hs : w'.heap.size = w.heap.size) (ht : w'.tape = w.tape) (ho : w'.os = w.os) (hp : w'.output = w.output) (hk : ∀ k, k ≠ W.blk → w'.heap[k]? = w.heap[k]?)
    (r : BlkRel (upd (dead ρ b) h.n (some (some W'))) w' x' W') :
    Step ρ h w (upd (dead ρ b) h.n (some (some W'))) ((h.kill b).new x') w' := by
  have hne : b ≠ h.n := fun e => by subst e; rw [hf] at hW; cases hW
  have hE : Ext ρ (upd (dead ρ b) h.n (some (some W'))) := (dead_ext ρ b).trans (upd_ext (by simp [dead, upd, Ne.symm hne, hf]))
  have old : ∀ c y, c ≠ h.n → c ≠ b → h.get c = some y → ∃ U, ρ c = some (some U) ∧ BlkRel ρ w y U ∧ U.blk ≠ W.blk := fun c y h0 h1 hy => by
    obtain ⟨U, g1, g2⟩ := s.live c y hy
    refine ⟨U, g1, g2, fun e => ?_⟩
    rcases s.inj c b y x U W hy hb g1 hW e with g | ⟨_, g⟩
    · exact h1 g
    · rw [hx] at g; cases g
  have get' : ∀ c, ((h.kill b).new x').get c = if c = h.n then some x' else if c = b then none else h.get c := fun c => by simp
  have ren' : ∀ c, upd (dead ρ b) h.n (some (some W')) c = if c = h.n then some (some W') else if c = b then some none else ρ c := fun c => rfl
  refine ⟨⟨fun c y hc => ?_, fun c d y z U U' hc hd h1 h2 h3 => ?_⟩, fun c y hc => ?_, fun c h0 h1 => ?_, fun c hc => ?_, by simp, Nat.le_of_eq hs.symm, ht, ho, hp, fun k hk' hm => hk k fun e => hm ⟨b, x, W, hb, hx, hW, e.symm⟩,
    fun k ⟨c, y, U, h1, h2, h3, h4⟩ => .inr ?_, fun k ⟨c, y, U, h1, h3, h4⟩ => .inr ?_⟩
  · rw [get'] at hc
    rw [ren']
    split at hc
    · rename_i e; simp at hc; subst hc; exact ⟨W', by simp [e], r⟩
    · split at hc
      · cases hc
      · rename_i e1 e2
        obtain ⟨U, g1, g2, g3⟩ := old c y e1 e2 hc
        exact ⟨U, by simp [e1, e2, g1], g2.mono hE (hk _ g3)⟩
  · rw [get'] at hc hd
    rw [ren'] at h1 h2
    by_cases e1 : c = h.n <;> by_cases e2 : d = h.n
    · exact .inl (e1.trans e2.symm)
    · simp [e1] at h1; subst h1
      by_cases e3 : d = b
      · rw [if_neg e2, if_pos e3] at hd; cases hd
      · rw [if_neg e2, if_neg e3] at hd h2
        obtain ⟨U2, g1, g2, g3⟩ := old d z e2 e3 hd
        rw [g1] at h2; simp at h2; subst h2; omega
    · simp [e2] at h2; subst h2
      by_cases e3 : c = b
      · rw [if_neg e1, if_pos e3] at hc; cases hc
      · rw [if_neg e1, if_neg e3] at hc h1
        obtain ⟨U2, g1, g2, g3⟩ := old c y e1 e3 hc
        rw [g1] at h1; simp at h1; subst h1; omega
    · by_cases e3 : c = b
      · rw [if_neg e1, if_pos e3] at hc; cases hc
      · by_cases e4 : d = b
        · rw [if_neg e2, if_pos e4] at hd; cases hd
        · rw [if_neg e1, if_neg e3] at hc h1
          rw [if_neg e2, if_neg e4] at hd h2
          exact s.inj c d y z U U' hc hd h1 h2 h3
  · rw [ren']
    by_cases e1 : c = h.n
    · subst e1; rw [hf] at hc; cases hc
    · by_cases e2 : c = b
      · subst e2; exact .inr ⟨by simp [e1], by rw [hb]; simp⟩
      · exact .inl (by simp [e1, e2, hc])
  · rw [ren'] at h1
    by_cases e1 : c = h.n
    · subst e1; simp
    · by_cases e2 : c = b
      · subst e2; rw [h0] at hW; cases hW
      · simp [e1, e2, h0] at h1
  · rw [get'] at hc
    by_cases e1 : c = h.n
    · subst e1; exact .inr (by simp)
    · by_cases e2 : c = b
      · simp [e1, e2, hne] at hc
      · simp [e1, e2] at hc; exact .inl hc
  · rw [get'] at h1; rw [ren'] at h3
    by_cases e1 : c = h.n
    · simp [e1] at h3; subst h3; exact ⟨b, x, W, hb, hx, hW, by omega⟩
    · by_cases e2 : c = b
      · simp [e1, e2, hne] at h1
      · rw [if_neg e1, if_neg e2] at h1 h3; exact ⟨c, y, U, h1, h2, h3, h4⟩
  · rw [get'] at h1; rw [ren'] at h3
    by_cases e1 : c = h.n
    · simp [e1] at h3; subst h3; exact ⟨b, x, W, hb, hW, by omega⟩
    · by_cases e2 : c = b
      · simp [e1, e2, hne] at h1
      · rw [if_neg e1, if_neg e2] at h1 h3; exact ⟨c, y, U, h1, h3, h4⟩

end Go.Proofs.YtgihdlhoaimlpaaGreatDoor.AM
