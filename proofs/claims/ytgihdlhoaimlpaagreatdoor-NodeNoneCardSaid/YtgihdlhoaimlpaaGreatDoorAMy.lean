/- The abstract machine: what other orders come to. -/
import Derived.Test.YtgihdlhoaimlpaaGreatDoorAMx
namespace Go.Proofs.YtgihdlhoaimlpaaGreatDoor.AM
set_option autoImplicit false
set_option linter.unusedSimpArgs false
set_option linter.unusedVariables false

/-- Steps on parts of a heap, from the region's start. -/
structure Base (ρ₀ : Ren) (h₀ : H) (w₀ : World) (N : Nat) (ρ : Ren) (X : H) (w : World) : Prop where
  sim : Sim ρ X w
  ext : ∀ b x, ρ₀ b = some x → ρ b = some x ∨ (ρ b = some none ∧ h₀.get b ≠ none)
  xl : ∀ b, X.get b ≠ none → h₀.get b ≠ none ∨ (h₀.n ≤ b ∧ b < N)
  size : w₀.heap.size ≤ w.heap.size
  tape : w.tape = w₀.tape
  os : w.os = w₀.os
  output : w.output = w₀.output
  keep : ∀ k, k < w₀.heap.size → ¬ Mut ρ₀ h₀ k → w.heap[k]? = w₀.heap[k]?
  mu : ∀ k, Mut ρ X k → w₀.heap.size ≤ k ∨ Mut ρ₀ h₀ k
  liv : ∀ k, Liv ρ X k → w₀.heap.size ≤ k ∨ Liv ρ₀ h₀ k

theorem Base.start {ρ : Ren} {h : H} {w : World} (s : Sim ρ h w) (N n : Nat) : Base ρ h w N ρ h { w with drawn := n } where
  sim := (Step.drew s n).sim
  ext := fun _ _ h => .inl h
  xl := fun _ h => .inl h
  size := Nat.le_refl _
  tape := rfl
  os := rfl
  output := rfl
  keep := fun _ _ _ => rfl
  mu := fun _ h => .inr h
  liv := fun _ h => .inr h

theorem blk_lt {ρ : Ren} {w : World} {x : Blk} {W : Win} (r : BlkRel ρ w x W) : W.blk < w.heap.size := by
  have : ∃ y, w.heap[W.blk]? = some y := by
    cases x with
    | row e cs opn ro => obtain ⟨c, fr, h, _⟩ := r; exact ⟨_, h⟩
    | map es clock => obtain ⟨_, es', h, _⟩ := r; exact ⟨_, h⟩
    | siter s pos => obtain ⟨_, s', h, _⟩ := r; exact ⟨_, h⟩
    | miter m since seen stepped => obtain ⟨_, m', h, _⟩ := r; exact ⟨_, h⟩
  obtain ⟨y, h⟩ := this
  exact (Array.getElem?_eq_some_iff.1 h).1

theorem Sim.sub {ρ : Ren} {X h : H} {w : World} (s : Sim ρ X w) (sub : ∀ b x, h.get b = some x → X.get b = some x) : Sim ρ h w :=
  ⟨fun b x e => s.live b x (sub b x e), fun b c x y W U e1 e2 e3 e4 e5 => s.inj b c x y W U (sub b x e1) (sub c y e2) e3 e4 e5⟩

theorem Base.step {ρ₀ ρ ρ' : Ren} {h₀ X X' hb h' : H} {w₀ w w' : World} {N : Nat} (B : Base ρ₀ h₀ w₀ N ρ X w) (fr : ∀ b, h₀.n ≤ b → b < N → ρ₀ b = none)
    (sub : ∀ b x, hb.get b = some x → X.get b = some x) (st : Step ρ hb w ρ' h' w') (lo : h₀.n ≤ hb.n) (hi : h'.n ≤ N)
    (hX : ∀ b x, X'.get b = some x → h'.get b = some x ∨ (X.get b = some x ∧ x.ro = false ∧ hb.get b = none)) : Base ρ₀ h₀ w₀ N ρ' X' w' := by
  have keepX : ∀ b x, X.get b = some x → x.ro = false → hb.get b = none → ∃ W, ρ b = some (some W) ∧ ρ' b = some (some W) ∧ BlkRel ρ w x W ∧ w'.heap[W.blk]? = w.heap[W.blk]? := fun b x hx hr hn => by
    obtain ⟨W, h1, h2⟩ := B.sim.live b x hx
    refine ⟨W, h1, ?_, h2, ?_⟩
    · rcases st.ext b _ h1 with h3 | ⟨_, h3⟩
      · exact h3
      · exact absurd hn h3
    · refine st.keep W.blk (blk_lt h2) fun ⟨c, y, U, h3, h4, h5, h6⟩ => ?_
      rcases B.sim.inj b c x y W U hx (sub c y h3) h1 h5 h6.symm with h7 | h7
      · subst h7; rw [hn] at h3; cases h3
      · rw [h4] at h7; cases h7.2
  have apart : ∀ b x c y W U, X.get b = some x → x.ro = false → hb.get b = none → ρ b = some (some W) → h'.get c = some y → ρ' c = some (some U) → W.blk = U.blk → False :=
    fun b x c y W U hx hr hn hW hc hU he => by
      rcases st.liv U.blk ⟨c, y, U, hc, hU, rfl⟩ with h1 | ⟨c2, y2, U2, h2, h3, h4⟩
      · obtain ⟨W', h5, h6⟩ := B.sim.live b x hx
        rw [hW] at h5; cases h5
        have := blk_lt h6
        omega
      · rcases B.sim.inj b c2 x y2 W U2 hx (sub c2 y2 h2) hW h3 (by rw [he, h4]) with h5 | h5
        · subst h5; rw [hn] at h2; cases h2
        · rw [hr] at h5; cases h5.1
  have xb : ∀ b, X.get b ≠ none → ρ₀ b ≠ none → h₀.get b ≠ none := fun b h1 h2 => by
    rcases B.xl b h1 with h3 | h3
    · exact h3
    · exact absurd (fr b h3.1 h3.2) h2
  refine ⟨⟨fun b x hx => ?_, fun b c x y W U hb' hc hW hU he => ?_⟩, fun b x hx => ?_, fun b hb' => ?_, Nat.le_trans B.size st.size, st.tape.trans B.tape, st.os.trans B.os, st.output.trans B.output, fun k hk hm => ?_, fun k hm => ?_, fun k hm => ?_⟩
  · rcases hX b x hx with h1 | ⟨h1, h2, h3⟩
    · exact st.sim.live b x h1
    · obtain ⟨W, h4, h5, h6, h7⟩ := keepX b x h1 h2 h3
      exact ⟨W, h5, h6.mono st.toExt h7⟩
  · rcases hX b x hb' with h1 | ⟨h1, h2, h3⟩
    · rcases hX c y hc with g1 | ⟨g1, g2, g3⟩
      · exact st.sim.inj b c x y W U h1 g1 hW hU he
      · obtain ⟨U', h4, h5, _, _⟩ := keepX c y g1 g2 g3
        rw [h5] at hU; cases hU
        exact (apart c y b x U W g1 g2 g3 h4 h1 hW he.symm).elim
    · obtain ⟨W', h4, h5, _, _⟩ := keepX b x h1 h2 h3
      rw [h5] at hW; cases hW
      rcases hX c y hc with g1 | ⟨g1, g2, g3⟩
      · exact (apart b x c y W U h1 h2 h3 h4 g1 hU he).elim
      · obtain ⟨U', g4, g5, _, _⟩ := keepX c y g1 g2 g3
        rw [g5] at hU; cases hU
        exact B.sim.inj b c x y W U h1 g1 h4 g4 he
  · rcases B.ext b x hx with h1 | ⟨h1, h2⟩
    · rcases st.ext b x h1 with h3 | ⟨h3, h4⟩
      · exact .inl h3
      · refine .inr ⟨h3, xb b ?_ (by rw [hx]; simp)⟩
        cases hg : hb.get b with
        | none => exact absurd hg h4
        | some y => rw [sub b y hg]; simp
    · rcases st.ext b _ h1 with h3 | ⟨h3, _⟩ <;> exact .inr ⟨h3, h2⟩
  · cases hg : X'.get b with
    | none => exact absurd hg hb'
    | some x =>
      rcases hX b x hg with h1 | ⟨h1, _, _⟩
      · rcases st.live b (by rw [h1]; simp) with h2 | h2
        · refine B.xl b ?_
          cases hg2 : hb.get b with
          | none => exact absurd hg2 h2
          | some y => rw [sub b y hg2]; simp
        · exact .inr ⟨Nat.le_trans lo h2.1, Nat.lt_of_lt_of_le h2.2 hi⟩
      · exact B.xl b (by rw [h1]; simp)
  · rw [st.keep k (Nat.lt_of_lt_of_le hk B.size) fun ⟨c, y, U, h1, h2, h3, h4⟩ => ?_, B.keep k hk hm]
    rcases B.mu k ⟨c, y, U, sub c y h1, h2, h3, h4⟩ with h5 | h5
    · omega
    · exact hm h5
  · obtain ⟨b, x, W, h1, h2, h3, h4⟩ := hm
    rcases hX b x h1 with g1 | ⟨g1, g2, g3⟩
    · rcases st.mu k ⟨b, x, W, g1, h2, h3, h4⟩ with h5 | ⟨c, y, U, h5, h6, h7, h8⟩
      · exact .inl (Nat.le_trans B.size h5)
      · exact B.mu k ⟨c, y, U, sub c y h5, h6, h7, h8⟩
    · obtain ⟨W', g4, g5, _, _⟩ := keepX b x g1 g2 g3
      rw [g5] at h3; cases h3
      exact B.mu k ⟨b, x, W, g1, h2, g4, h4⟩
  · obtain ⟨b, x, W, h1, h3, h4⟩ := hm
    rcases hX b x h1 with g1 | ⟨g1, g2, g3⟩
    · rcases st.liv k ⟨b, x, W, g1, h3, h4⟩ with h5 | ⟨c, y, U, h5, h7, h8⟩
      · exact .inl (Nat.le_trans B.size h5)
      · exact B.liv k ⟨c, y, U, sub c y h5, h7, h8⟩
    · obtain ⟨W', g4, g5, _, _⟩ := keepX b x g1 g2 g3
      rw [g5] at h3; cases h3
      exact B.liv k ⟨b, x, W, g1, g4, h4⟩

theorem overA_get {bf : List Nat} {j k : Nat} {h : H} : ∀ (l : List (Nat × Nat × Nat × Blk)) (b : Nat) (x : Blk), (overA bf j k l h).get b = some x →
    h.get b = some x ∨ ∃ a st, (a, st, b, x) ∈ l ∧ k ≤ st ∧ ahead bf j a = true
  | [], b, x, e => .inl e
  | (a, st, id, y) :: l, b, x, e => by
    simp only [overA] at e
    cases hc : Nat.ble k st && ahead bf j a with
    | false =>
      rw [hc] at e
      rcases overA_get l b x e with h1 | ⟨a', st', h1, h2⟩
      · exact .inl h1
      · exact .inr ⟨a', st', by simp [h1], h2⟩
    | true =>
      rw [hc] at e
      simp only [cond_true, H.get_put] at e
      split at e
      · rename_i hb
        simp only [Option.some.injEq] at e
        simp only [Bool.and_eq_true] at hc
        exact .inr ⟨a, st, by simp [hb, e], Nat.le_of_ble_eq_true hc.1, hc.2⟩
      · rcases overA_get l b x e with h1 | ⟨a', st', h1, h2⟩
        · exact .inl h1
        · exact .inr ⟨a', st', by simp [h1], h2⟩

/-- A heap with blocks put over it. -/
def overL : List (Nat × Nat × Nat × Blk) → H → H
  | [], h => h
  | (_, _, id, x) :: l, h => (overL l h).put id x

theorem overL_get {h : H} : ∀ (l : List (Nat × Nat × Nat × Blk)) (b : Nat) (x : Blk), (overL l h).get b = some x → h.get b = some x ∨ ∃ a st, (a, st, b, x) ∈ l
  | [], b, x, e => .inl e
  | (a, st, id, y) :: l, b, x, e => by
    simp only [overL, H.get_put] at e
    split at e
    · rename_i hb
      simp only [Option.some.injEq] at e
      exact .inr ⟨a, st, by simp [hb, e]⟩
    · rcases overL_get l b x e with h1 | ⟨a', st', h1⟩
      · exact .inl h1
      · exact .inr ⟨a', st', by simp [h1]⟩

theorem overL_mem {h : H} : ∀ (l : List (Nat × Nat × Nat × Blk)), (∀ a st id x a' st' x', (a, st, id, x) ∈ l → (a', st', id, x') ∈ l → x = x') → ∀ a st id x, (a, st, id, x) ∈ l → (overL l h).get id = some x
  | [], _, a, st, id, x, e => by simp at e
  | (b, t, i, y) :: l, u, a, st, id, x, e => by
    simp only [overL, H.get_put]
    split
    · rename_i hi
      subst hi
      rw [u a st id x b t y e (by simp)]
    · rename_i hi
      rcases List.mem_cons.1 e with e | e
      · simp only [Prod.mk.injEq] at e; exact absurd e.2.2.1 hi
      · exact overL_mem l (fun a st id x a' st' x' h1 h2 => u a st id x a' st' x' (by simp [h1]) (by simp [h2])) a st id x e

theorem overL_not {h : H} : ∀ (l : List (Nat × Nat × Nat × Blk)) (b : Nat), (∀ a st x, (a, st, b, x) ∉ l) → (overL l h).get b = h.get b
  | [], b, _ => rfl
  | (a, st, id, y) :: l, b, n => by
    simp only [overL, H.get_put]
    split
    · rename_i hb; subst hb; exact absurd (by simp) (n a st y)
    · exact overL_not l b fun a st x hm => n a st x (by simp [hm])

end Go.Proofs.YtgihdlhoaimlpaaGreatDoor.AM
