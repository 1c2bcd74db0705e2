/- The abstract machine: a cell read, a cell written, a block made, a block moved. -/
import Derived.Test.YtgihdlhoaimlpaaGreatDoorAMb
import Derived.WalkKit
namespace Go.Proofs.YtgihdlhoaimlpaaGreatDoor.AM
set_option autoImplicit false
set_option linter.unusedSimpArgs false
set_option linter.unusedVariables false

def upd (ρ : Ren) (b : Nat) (x : Option (Option Win)) : Ren := fun c => if c = b then x else ρ c

theorem upd_ext {ρ : Ren} {b : Nat} {x : Option (Option Win)} (h : ρ b = none) : Ext ρ (upd ρ b x) := fun c y hc => by
  by_cases e : c = b
  · subst e; rw [h] at hc; cases hc
  · exact .inl (by simp [upd, e, hc])

theorem PRel.addr {ρ : Ren} {b o : Nat} {a : Addr} {W : Win} (p : PRel ρ b o a) (h : ρ b = some (some W)) : a = ⟨W.blk, W.sh + o, none⟩ := by
  obtain ⟨h0, h1⟩ := p
  rcases h1 with h1 | ⟨U, h1, h2, h3⟩
  · rw [h] at h1; simp at h1
  · rw [h] at h1; simp at h1; subst h1
    cases a; simp_all

theorem add_eq (b o n : Nat) : (⟨b, o, none⟩ : Addr).add n = ⟨b, o + n, none⟩ := by unfold Addr.add; split <;> simp_all

theorem PRel.add {ρ : Ren} {b o n : Nat} {a : Addr} (p : PRel ρ b o a) : PRel ρ b (o + n) (a.add n) := by
  obtain ⟨h0, h1⟩ := p
  unfold Addr.add
  split
  · subst n; exact ⟨h0, h1⟩
  · refine ⟨rfl, ?_⟩
    rcases h1 with h1 | ⟨U, h1, h2, h3⟩
    · exact .inl h1
    · exact .inr ⟨U, h1, h2, by simp [h3]; omega⟩

theorem BlkRel.cell {ρ : Ren} {w : World} {e : Nat} {cs : List V} {opn ro : Bool} {W : Win} (r : BlkRel ρ w (.row e cs opn ro) W) {i : Nat} {v : V} (h : cs[i]? = some v) :
    ∃ v', w.cell? ⟨W.blk, W.sh + i, none⟩ = some v' ∧ VRel ρ v v' := by
  obtain ⟨c, fr, h1, h2, h3, h4, h5, h6, h7⟩ := r
  obtain ⟨v', a, b⟩ := h6 i v h
  exact ⟨v', by simp [World.cell?, h1, a], b⟩

theorem BlkRel.cells {ρ : Ren} {w : World} {e : Nat} {cs : List V} {opn ro : Bool} {W : Win} (r : BlkRel ρ w (.row e cs opn ro) W) (o n : Nat) (h : o + n ≤ cs.length) :
    ∃ l', LRel ρ ((cs.drop o).take n) l' ∧ l'.length = n ∧ ∀ j v, l'[j]? = some v → w.cell? ⟨W.blk, W.sh + o + j, none⟩ = some v := by
  obtain ⟨c, fr, h1, h2, h3, h4, h5, h6, h7⟩ := r
  refine ⟨(c.toList.drop (W.sh + o)).take n, LRel.of_get ?_ fun i v hi => ?_, ?_, fun j v hj => ?_⟩
  · simp; omega
  · rw [List.getElem?_take] at hi ⊢
    split at hi
    · rename_i hlt
      rw [List.getElem?_drop] at hi
      obtain ⟨v', a, b⟩ := h6 _ v hi
      exact ⟨v', by simp [hlt, List.getElem?_drop, Nat.add_assoc, a], b⟩
    · simp at hi
  · simp; omega
  · rw [List.getElem?_take] at hj
    split at hj
    · rw [List.getElem?_drop] at hj
      simp [World.cell?, h1]; simpa using hj
    · simp at hj

/-- A block of the abstract heap is written, and its model's block alone. -/
theorem step_put {ρ : Ren} {h : H} {w w' : World} {b : Nat} {x x' : Blk} {W : Win} (s : Sim ρ h w) (hb : h.get b = some x) (hx : x.ro = false) (hW : ρ b = some (some W))
    (hs : w'.heap.size = w.heap.size) (ht : w'.tape = w.tape) (ho : w'.os = w.os) (hp : w'.output = w.output) (hk : ∀ k, k ≠ W.blk → w'.heap[k]? = w.heap[k]?) (r : BlkRel ρ w' x' W) :
    Step ρ h w ρ (h.put b x') w' where
  sim := by
    refine ⟨fun c y hc => ?_, fun c d y z U U' hc hd h1 h2 h3 => ?_⟩
    · rw [H.get_put] at hc
      split at hc
      · rename_i e; subst e; simp at hc; subst hc; exact ⟨W, hW, r⟩
      · rename_i e
        obtain ⟨U, h1, h2⟩ := s.live c y hc
        refine ⟨U, h1, h2.mono (Ext.refl _) (hk _ fun e' => ?_)⟩
        rcases s.inj c b y x U W hc hb h1 hW e' with h3 | ⟨_, h3⟩
        · exact e h3
        · rw [hx] at h3; cases h3
    · by_cases e1 : c = b <;> by_cases e2 : d = b
      · exact .inl (e1.trans e2.symm)
      · subst e1
        rw [H.get_put, if_neg e2] at hd
        rcases s.inj c d x z U U' hb hd h1 h2 h3 with h4 | ⟨h4, _⟩
        · exact .inl h4
        · rw [hx] at h4; cases h4
      · subst e2
        rw [H.get_put, if_neg e1] at hc
        rcases s.inj c d y x U U' hc hb h1 h2 h3 with h4 | ⟨_, h4⟩
        · exact .inl h4
        · rw [hx] at h4; cases h4
      · rw [H.get_put, if_neg e1] at hc
        rw [H.get_put, if_neg e2] at hd
        exact s.inj c d y z U U' hc hd h1 h2 h3
  ext := fun _ _ h => .inl h
  new := fun _ h h' => absurd h h'
  live := fun c hc => .inl (by
    rw [H.get_put] at hc
    split at hc
    · rename_i e; subst e; rw [hb]; simp
    · exact hc)
  nn := Nat.le_refl _
  size := Nat.le_of_eq hs.symm
  tape := ht
  os := ho
  output := hp
  keep := fun k hk' hm => hk k fun e => hm ⟨b, x, W, hb, hx, hW, e.symm⟩
  mu := fun k ⟨c, y, U, h1, h2, h3, h4⟩ => .inr (by
    rw [H.get_put] at h1
    split at h1
    · rename_i e; subst e; rw [hW] at h3; simp at h3; subst h3; exact ⟨c, x, W, hb, hx, hW, h4⟩
    · exact ⟨c, y, U, h1, h2, h3, h4⟩)
  liv := fun k ⟨c, y, U, h1, h3, h4⟩ => .inr (by
    rw [H.get_put] at h1
    split at h1
    · rename_i e; subst e; rw [hW] at h3; simp at h3; subst h3; exact ⟨c, x, W, hb, hW, h4⟩
    · exact ⟨c, y, U, h1, h3, h4⟩)

/-- A block is made: the model's new block is its own. -/
theorem step_new {ρ : Ren} {h : H} {w w' : World} {x : Blk} {W : Win} (s : Sim ρ h w) (hf : ρ h.n = none) (hWb : W.blk = w.heap.size)
    (hs : w.heap.size ≤ w'.heap.size) (ht : w'.tape = w.tape) (ho : w'.os = w.os) (hp : w'.output = w.output) (hk : ∀ k, k < w.heap.size → w'.heap[k]? = w.heap[k]?)
    (r : BlkRel (upd ρ h.n (some (some W))) w' x W) :
    Step ρ h w (upd ρ h.n (some (some W))) (h.new x) w' where
  sim := by
    have old : ∀ c y, c ≠ h.n → h.get c = some y → ∃ U, ρ c = some (some U) ∧ BlkRel ρ w y U ∧ U.blk < w.heap.size := fun c y hc hy => by
      obtain ⟨U, h1, h2⟩ := s.live c y hy
      refine ⟨U, h1, h2, ?_⟩
      have : ∃ o, w.heap[U.blk]? = some o := by
        cases y with
        | row => obtain ⟨c, fr, h3, _⟩ := h2; exact ⟨_, h3⟩
        | map => obtain ⟨_, c, h3, _⟩ := h2; exact ⟨_, h3⟩
        | siter => obtain ⟨_, c, h3, _⟩ := h2; exact ⟨_, h3⟩
        | miter => obtain ⟨_, c, h3, _⟩ := h2; exact ⟨_, h3⟩
      obtain ⟨o, ho⟩ := this
      exact (Array.getElem?_eq_some_iff.1 ho).1
    refine ⟨fun c y hc => ?_, fun c d y z U U' hc hd h1 h2 h3 => ?_⟩
    · rw [H.get_new] at hc
      split at hc
      · rename_i e; subst e; simp at hc; subst hc; exact ⟨W, by simp [upd], r⟩
      · rename_i e
        obtain ⟨U, h1, h2, h3⟩ := old c y e hc
        exact ⟨U, by simp [upd, e, h1], h2.mono (upd_ext hf) (hk _ h3)⟩
    · by_cases e1 : c = h.n <;> by_cases e2 : d = h.n
      · exact .inl (e1.trans e2.symm)
      · rw [H.get_new, if_neg e2] at hd
        obtain ⟨U2, g1, g2, g3⟩ := old d z e2 hd
        subst e1
        simp [upd] at h1; simp [upd, e2, g1] at h2; subst h1; subst h2; omega
      · rw [H.get_new, if_neg e1] at hc
        obtain ⟨U2, g1, g2, g3⟩ := old c y e1 hc
        subst e2
        simp [upd] at h2; simp [upd, e1, g1] at h1; subst h1; subst h2; omega
      · rw [H.get_new, if_neg e1] at hc
        rw [H.get_new, if_neg e2] at hd
        simp [upd, e1] at h1; simp [upd, e2] at h2
        exact s.inj c d y z U U' hc hd h1 h2 h3
  ext := fun c y hc => .inl (by
    by_cases e : c = h.n
    · subst e; rw [hf] at hc; cases hc
    · simp [upd, e, hc])
  new := fun c h0 h1 => by
    by_cases e : c = h.n
    · subst e; simp
    · simp [upd, e, h0] at h1
  live := fun c hc => by
    rw [H.get_new] at hc
    split at hc
    · rename_i e; subst e; exact .inr (by simp)
    · exact .inl hc
  nn := by simp
  size := hs
  tape := ht
  os := ho
  output := hp
  keep := fun k hk' _ => hk k hk'
  mu := fun k ⟨c, y, U, h1, h2, h3, h4⟩ => by
    rw [H.get_new] at h1
    split at h1
    · rename_i e; subst e; simp [upd] at h3; subst h3; exact .inl (by omega)
    · rename_i e; simp [upd, e] at h3; exact .inr ⟨c, y, U, h1, h2, h3, h4⟩
  liv := fun k ⟨c, y, U, h1, h3, h4⟩ => by
    rw [H.get_new] at h1
    split at h1
    · rename_i e; subst e; simp [upd] at h3; subst h3; exact .inl (by omega)
    · rename_i e; simp [upd, e] at h3; exact .inr ⟨c, y, U, h1, h3, h4⟩

theorem Sim.lt {ρ : Ren} {h : H} {w : World} (s : Sim ρ h w) {b : Nat} {x : Blk} {W : Win} (hb : h.get b = some x) (hW : ρ b = some (some W)) : W.blk < w.heap.size := by
  obtain ⟨U, h1, h2⟩ := s.live b x hb
  rw [hW] at h1; simp at h1; subst h1
  have : ∃ o, w.heap[W.blk]? = some o := by
    cases x with
    | row => obtain ⟨c, fr, h3, _⟩ := h2; exact ⟨_, h3⟩
    | map => obtain ⟨_, c, h3, _⟩ := h2; exact ⟨_, h3⟩
    | siter => obtain ⟨_, c, h3, _⟩ := h2; exact ⟨_, h3⟩
    | miter => obtain ⟨_, c, h3, _⟩ := h2; exact ⟨_, h3⟩
  obtain ⟨o, ho⟩ := this
  exact (Array.getElem?_eq_some_iff.1 ho).1

def dead (ρ : Ren) (b : Nat) : Ren := upd ρ b (some none)

theorem dead_ext (ρ : Ren) (b : Nat) : Ext ρ (dead ρ b) := fun c y hc => by
  by_cases e : c = b
  · exact .inr (by simp [dead, upd, e])
  · exact .inl (by simp [dead, upd, e, hc])

/-- A block goes. -/
theorem step_kill {ρ : Ren} {h : H} {w : World} {b : Nat} (s : Sim ρ h w) (hb : h.get b ≠ none) : Step ρ h w (dead ρ b) (h.kill b) w where
  sim := by
    refine ⟨fun c y hc => ?_, fun c d y z U U' hc hd h1 h2 h3 => ?_⟩
    · rw [H.get_kill] at hc
      split at hc
      · cases hc
      · rename_i e
        obtain ⟨U, h1, h2⟩ := s.live c y hc
        exact ⟨U, by simp [dead, upd, e, h1], h2.mono (dead_ext _ _) rfl⟩
    · rw [H.get_kill] at hc hd
      split at hc
      · cases hc
      · split at hd
        · cases hd
        · rename_i e1 e2
          simp [dead, upd, e1] at h1; simp [dead, upd, e2] at h2
          exact s.inj c d y z U U' hc hd h1 h2 h3
  ext := fun c y hc => by
    by_cases e : c = b
    · subst e; exact .inr ⟨by simp [dead, upd], hb⟩
    · exact .inl (by simp [dead, upd, e, hc])
  new := fun c h0 h1 => by
    by_cases e : c = b
    · subst e
      obtain ⟨x, hx⟩ := Option.ne_none_iff_exists'.1 hb
      obtain ⟨U, h2, _⟩ := s.live c x hx
      rw [h0] at h2; cases h2
    · simp [dead, upd, e, h0] at h1
  live := fun c hc => by
    rw [H.get_kill] at hc
    split at hc
    · exact absurd rfl hc
    · exact .inl hc
  nn := Nat.le_refl _
  size := Nat.le_refl _
  tape := rfl
  os := rfl
  output := rfl
  keep := fun _ _ _ => rfl
  mu := fun k ⟨c, y, U, h1, h2, h3, h4⟩ => .inr (by
    rw [H.get_kill] at h1
    split at h1
    · cases h1
    · rename_i e; simp [dead, upd, e] at h3; exact ⟨c, y, U, h1, h2, h3, h4⟩)
  liv := fun k ⟨c, y, U, h1, h3, h4⟩ => .inr (by
    rw [H.get_kill] at h1
    split at h1
    · cases h1
    · rename_i e; simp [dead, upd, e] at h3; exact ⟨c, y, U, h1, h3, h4⟩)

end Go.Proofs.YtgihdlhoaimlpaaGreatDoor.AM
