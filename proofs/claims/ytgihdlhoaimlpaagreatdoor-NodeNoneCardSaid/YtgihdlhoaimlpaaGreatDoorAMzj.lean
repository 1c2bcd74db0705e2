/- The abstract machine: a function that ranges over a map in whatever order, and comes to one. -/
import Derived.Test.YtgihdlhoaimlpaaGreatDoorAMzi
namespace Go.Proofs.YtgihdlhoaimlpaaGreatDoor.AM
set_option autoImplicit false
set_option linter.unusedSimpArgs false
set_option linter.unusedVariables false

section
variable {P : Program} {ρ ρ' : Ren} {h hb h' X' : H} {w w' : World} {G nt lf : Nat} {call : CallF}

/-- A step on a part of a heap is a step on the whole: what isn't in the part stays. -/
theorem Step.frame (s : Sim ρ h w) (sub : ∀ b x, hb.get b = some x → h.get b = some x) (st : Step ρ hb w ρ' h' w') (hn : hb.n = h.n) (f : Fresh ρ h X') (hi : h'.n ≤ X'.n)
    (hX : ∀ b x, X'.get b = some x → h'.get b = some x ∨ (h.get b = some x ∧ hb.get b = none)) : Step ρ h w ρ' X' w' := by
  have keepX : ∀ b x, h.get b = some x → hb.get b = none → ∃ W, ρ b = some (some W) ∧ ρ' b = some (some W) ∧ BlkRel ρ w x W ∧ w'.heap[W.blk]? = w.heap[W.blk]? := fun b x hx hnb => by
    obtain ⟨W, h1, h2⟩ := s.live b x hx
    refine ⟨W, h1, ?_, h2, ?_⟩
    · rcases st.ext b _ h1 with h3 | ⟨_, h3⟩
      · exact h3
      · exact absurd hnb h3
    · refine st.keep W.blk (blk_lt h2) fun ⟨c, y, U, h3, h4, h5, h6⟩ => ?_
      rcases s.inj b c x y W U hx (sub c y h3) h1 h5 h6.symm with h7 | h7
      · subst h7; rw [hnb] at h3; cases h3
      · rw [h4] at h7; cases h7.2
  have apart : ∀ b x c y W U, h.get b = some x → hb.get b = none → ρ b = some (some W) → h'.get c = some y → ρ' c = some (some U) → W.blk = U.blk → x.ro = true ∧ y.ro = true :=
    fun b x c y W U hx hnb hW hc hU he => by
      rcases st.liv U.blk ⟨c, y, U, hc, hU, rfl⟩ with h1 | ⟨c2, y2, U2, h2, h3, h4⟩
      · obtain ⟨W', h5, h6⟩ := s.live b x hx
        rw [hW] at h5; cases h5
        have := blk_lt h6
        omega
      · rcases s.inj b c2 x y2 W U2 hx (sub c2 y2 h2) hW h3 (by rw [he, h4]) with h5 | h5
        · subst h5; rw [hnb] at h2; cases h2
        · refine ⟨h5.1, ?_⟩
          cases hro : y.ro with
          | true => rfl
          | false =>
            exfalso
            rcases st.mu U.blk ⟨c, y, U, hc, hro, hU, rfl⟩ with h6 | ⟨c3, y3, U3, h6, h7, h8, h9⟩
            · obtain ⟨W', g5, g6⟩ := s.live b x hx
              rw [hW] at g5; cases g5
              have := blk_lt g6
              omega
            · rcases s.inj b c3 x y3 W U3 hx (sub c3 y3 h6) hW h8 (by rw [he, h9]) with h10 | h10
              · subst h10; rw [hnb] at h6; cases h6
              · rw [h7] at h10; cases h10.2
  have hbn : ∀ b, hb.get b ≠ none → h.get b ≠ none := fun b hne => by
    cases hg : hb.get b with
    | none => exact absurd hg hne
    | some y => rw [sub b y hg]; simp
  refine ⟨⟨fun b x hx => ?_, fun b c x y W U hb' hc hW hU he => ?_⟩, fun b x hx => ?_, fun b h0 h1 => ?_, fun b hb' => ?_, by have := st.nn; omega, st.size, st.tape, st.os, st.output, fun k hk hm => ?_, fun k hm => ?_, fun k hm => ?_⟩
  · rcases hX b x hx with h1 | ⟨h1, h3⟩
    · exact st.sim.live b x h1
    · obtain ⟨W, h4, h5, h6, h7⟩ := keepX b x h1 h3
      exact ⟨W, h5, h6.mono st.toExt h7⟩
  · rcases hX b x hb' with h1 | ⟨h1, h3⟩
    · rcases hX c y hc with g1 | ⟨g1, g3⟩
      · exact st.sim.inj b c x y W U h1 g1 hW hU he
      · obtain ⟨U', h4, h5, _, _⟩ := keepX c y g1 g3
        rw [h5] at hU; cases hU
        have := apart c y b x U W g1 g3 h4 h1 hW he.symm
        exact .inr ⟨this.2, this.1⟩
    · obtain ⟨W', h4, h5, _, _⟩ := keepX b x h1 h3
      rw [h5] at hW; cases hW
      rcases hX c y hc with g1 | ⟨g1, g3⟩
      · exact .inr (apart b x c y W U h1 h3 h4 g1 hU he)
      · obtain ⟨U', g4, g5, _, _⟩ := keepX c y g1 g3
        rw [g5] at hU; cases hU
        exact s.inj b c x y W U h1 g1 h4 g4 he
  · rcases st.ext b x hx with h3 | ⟨h3, h4⟩
    · exact .inl h3
    · exact .inr ⟨h3, hbn b h4⟩
  · have := st.new b h0 h1
    omega
  · cases hg : X'.get b with
    | none => exact absurd hg hb'
    | some x =>
      rcases hX b x hg with h1 | ⟨h1, _⟩
      · rcases st.live b (by rw [h1]; simp) with h2 | h2
        · exact .inl (hbn b h2)
        · exact .inr (by omega)
      · exact .inl (by rw [h1]; simp)
  · exact st.keep k hk fun ⟨c, y, U, h1, h2, h3, h4⟩ => hm ⟨c, y, U, sub c y h1, h2, h3, h4⟩
  · obtain ⟨b, x, W, h1, h2, h3, h4⟩ := hm
    rcases hX b x h1 with g1 | ⟨g1, g3⟩
    · rcases st.mu k ⟨b, x, W, g1, h2, h3, h4⟩ with h5 | ⟨c, y, U, h5, h6, h7, h8⟩
      · exact .inl h5
      · exact .inr ⟨c, y, U, sub c y h5, h6, h7, h8⟩
    · obtain ⟨W', g4, g5, _, _⟩ := keepX b x g1 g3
      rw [g5] at h3; cases h3
      exact .inr ⟨b, x, W, g1, h2, g4, h4⟩
  · obtain ⟨b, x, W, h1, h3, h4⟩ := hm
    rcases hX b x h1 with g1 | ⟨g1, g3⟩
    · rcases st.liv k ⟨b, x, W, g1, h3, h4⟩ with h5 | ⟨c, y, U, h5, h7, h8⟩
      · exact .inl h5
      · exact .inr ⟨c, y, U, sub c y h5, h7, h8⟩
    · obtain ⟨W', g4, g5, _, _⟩ := keepX b x g1 g3
      rw [g5] at h3; cases h3
      exact .inr ⟨b, x, W, g1, g4, h4⟩

end

/-- Blocks put over a tree. -/
def layB (h : H) : List Nat → T Blk → T Blk
  | [], t => t
  | b :: l, t => (layB h l t).set b (h.get b)

theorem layB_get (h : H) : ∀ (l : List Nat) (t : T Blk) (b : Nat), (layB h l t).get b = if b ∈ l then h.get b else t.get b
  | [], t, b => by simp [layB]
  | c :: l, t, b => by
    simp only [layB, T.get_set, layB_get h l t b, List.mem_cons]
    by_cases hbc : b = c
    · subst hbc; simp
    · simp [hbc]

def subH (h : H) (l : List Nat) : H := ⟨layB h l .nil, h.n⟩

theorem subH_get (h : H) (l : List Nat) (b : Nat) : (subH h l).get b = if b ∈ l then h.get b else none := by
  simp [subH, H.get, layB_get, T.get_nil]

def entEq : List (V × V × Nat) → List (V × V × Nat) → Bool
  | [], [] => true
  | (a, b, c) :: l, (a', b', c') :: l' => beqV a a' && beqV b b' && Nat.beq c c' && entEq l l'
  | _, _ => false

theorem entEq_eq : ∀ (l l' : List (V × V × Nat)), entEq l l' = true → l = l'
  | [], [], _ => rfl
  | (a, b, c) :: l, (a', b', c') :: l', h => by
    simp only [entEq, Bool.and_eq_true] at h
    obtain ⟨⟨⟨h1, h2⟩, h3⟩, h4⟩ := h
    rw [beqV_eq _ _ h1, beqV_eq _ _ h2, Nat.eq_of_beq_eq_true h3, entEq_eq _ _ h4]
  | [], _ :: _, h => by simp [entEq] at h
  | _ :: _, [], h => by simp [entEq] at h

def blkEq : Blk → Blk → Bool
  | .row e cs opn ro, .row e' cs' opn' ro' => Nat.beq e e' && beqVs cs cs' && (opn == opn') && (ro == ro')
  | .map es clock, .map es' clock' => entEq es es' && Nat.beq clock clock'
  | _, _ => false

theorem blkEq_eq (x y : Blk) (h : blkEq x y = true) : x = y := by
  unfold blkEq at h
  split at h
  · simp only [Bool.and_eq_true, beq_iff_eq] at h
    obtain ⟨⟨⟨h1, h2⟩, h3⟩, h4⟩ := h
    rw [Nat.eq_of_beq_eq_true h1, beqVs_eq _ _ h2, h3, h4]
  · simp only [Bool.and_eq_true] at h
    rw [entEq_eq _ _ h.1, Nat.eq_of_beq_eq_true h.2]
  · cases h

def sameB (h h' : H) (b : Nat) : Bool := match h.get b, h'.get b with
  | some x, some y => blkEq x y
  | none, none => true
  | _, _ => false

theorem sameB_eq {h h' : H} {b : Nat} (e : sameB h h' b = true) : h'.get b = h.get b := by
  unfold sameB at e
  split at e
  · rename_i x y h1 h2; rw [h1, h2, blkEq_eq _ _ e]
  · rename_i h1 h2; rw [h1, h2]
  · cases e

def outsV (P : Program) (fn : Func) : Outs → Option (List (V × H))
  | [] => some []
  | (x, s) :: l => match x, resultsV P s.h s.env fn, outsV P fn l with
    | .normal, some v, some m | .ret, some v, some m => if s.ds.isEmpty then some ((v, s.h) :: m) else none
    | _, _, _ => none

def resB : V → List Nat
  | .sl _ b _ _ _ => [b]
  | _ => []

/-- A function is run, on a part of the heap, in all orders; all must come to one. -/
def joinX (P : Program) (G : Nat) (call : CallF) (lf f : Nat) (part : List V → H → List Nat) (args : List V) (h : H) : Option (V × H) := match P.funcs[f]? with
  | some fn => (match fn.body with
    | some c => if args.length ≤ fn.ntmps then (match evL P G fn.ntmps call lf c ⟨envOf args 0 .nil, subH h (part args h), []⟩ with
        | some outs => (match outsV P fn outs with
          | some ((v, h1) :: l) => if ((v, h1) :: l).all (fun r => beqV r.1 v && (part args h).all (sameB h r.2) && (resB v).all (sameB h1 r.2) && Nat.beq r.2.n h1.n) && (resB v).all (fun b => Nat.ble h.n b)
              then some (v, ⟨layB h1 (resB v) h.t, h1.n⟩) else none
          | _ => none)
        | none => none) else none
    | none => none)
  | none => none

theorem outsV_mem {P : Program} {fn : Func} : ∀ {outs : Outs} {m : List (V × H)}, outsV P fn outs = some m → ∀ r ∈ outs, ∃ v, (v, r.2.h) ∈ m ∧ resultsV P r.2.h r.2.env fn = some v ∧ r.2.ds = [] ∧ (r.1 = .normal ∨ r.1 = .ret)
  | [], m, e, r, hr => by cases hr
  | (x, s) :: l, m, e, r, hr => by
    simp only [outsV] at e
    split at e
    · rename_i v m' h1 h2
      split at e
      · rename_i hd
        simp only [Option.some.injEq] at e; subst e
        rcases List.mem_cons.1 hr with rfl | hr
        · exact ⟨v, by simp, h1, by simpa using hd, .inl rfl⟩
        · obtain ⟨v', h3, h4⟩ := outsV_mem h2 r hr
          exact ⟨v', by simp [h3], h4⟩
      · cases e
    · rename_i v m' h1 h2
      split at e
      · rename_i hd
        simp only [Option.some.injEq] at e; subst e
        rcases List.mem_cons.1 hr with rfl | hr
        · exact ⟨v, by simp, h1, by simpa using hd, .inr rfl⟩
        · obtain ⟨v', h3, h4⟩ := outsV_mem h2 r hr
          exact ⟨v', by simp [h3], h4⟩
      · cases e
    · cases e

theorem outsV_of {P : Program} {fn : Func} : ∀ {outs : Outs} {m : List (V × H)}, outsV P fn outs = some m → ∀ y ∈ m, ∃ r ∈ outs, y.2 = r.2.h
  | [], m, e, y, hy => by simp [outsV] at e; subst e; cases hy
  | (x, s) :: l, m, e, y, hy => by
    simp only [outsV] at e
    split at e
    · rename_i v m' h1 h2
      split at e
      · simp only [Option.some.injEq] at e; subst e
        rcases List.mem_cons.1 hy with rfl | hy
        · exact ⟨(.normal, s), by simp, rfl⟩
        · obtain ⟨r, h3, h4⟩ := outsV_of h2 y hy
          exact ⟨r, by simp [h3], h4⟩
      · cases e
    · rename_i v m' h1 h2
      split at e
      · simp only [Option.some.injEq] at e; subst e
        rcases List.mem_cons.1 hy with rfl | hy
        · exact ⟨(.ret, s), by simp, rfl⟩
        · obtain ⟨r, h3, h4⟩ := outsV_of h2 y hy
          exact ⟨r, by simp [h3], h4⟩
      · cases e
    · cases e

section
variable {P : Program} {G lf f : Nat} {call : CallF} {part : List V → H → List Nat}

theorem joinX_n (cn : CallN call) : AnsN (joinX P G call lf f part) := fun args h v h' e => by
  unfold joinX at e
  split at e
  · split at e
    · split at e
      · split at e
        · rename_i fn hf c hc hl _ outs hev
          split at e
          · rename_i v1 h1 l hm
            split at e
            · simp only [Option.some.injEq, Prod.mk.injEq] at e; obtain ⟨rfl, rfl⟩ := e
              obtain ⟨r, hr, hh⟩ := outsV_of hm (v1, h1) (by simp)
              have := (evL_rise cn _ _ _ hev).1 r hr
              rw [← hh] at this
              exact this
            · cases e
          · cases e
        · cases e
      · cases e
    · cases e
  · cases e

theorem joinX_ok (np : Plain P) (co : CallOK P G call) (cn : CallN call) (dr : ∀ nt, DrawsOK P G nt call) : AnsOK P G f (joinX P G call lf f part) := by
  intro args h v h' e ρ w args' s g fr r
  unfold joinX at e
  split at e
  · rename_i fn hf
    split at e
    · rename_i c hc
      split at e
      · rename_i hl
        split at e
        · rename_i outs hev
          split at e
          · rename_i v1 h1 l hm
            split at e
            · rename_i hall
              simp only [Option.some.injEq, Prod.mk.injEq] at e; obtain ⟨rfl, rfl⟩ := e
              simp only [Bool.and_eq_true, List.all_eq_true] at hall
              obtain ⟨hall, hres⟩ := hall
              have ri := evL_rise cn _ _ _ hev
              have sub : ∀ b x, (subH h (part args h)).get b = some x → h.get b = some x := fun b x hx => by
                rw [subH_get] at hx
                split at hx
                · exact hx
                · cases hx
              have s2 : Sim ρ (subH h (part args h)) w := s.sub sub
              have enter := enter_rel (fn := fn) (w := w) s2 r hl
              have look : ∀ y ∈ outs, ∃ v', resultsV P y.2.h y.2.env fn = some v' ∧ v' = v1 ∧ y.2.ds = [] ∧ (y.1 = .normal ∨ y.1 = .ret) ∧ y.2.h.n = h1.n ∧
                  (∀ b ∈ part args h, y.2.h.get b = h.get b) ∧ (∀ b ∈ resB v1, y.2.h.get b = h1.get b) := fun y hy => by
                obtain ⟨v', m1, m2, m3, m4⟩ := outsV_mem hm y hy
                obtain ⟨⟨⟨a1, a2⟩, a3⟩, a4⟩ := hall _ m1
                exact ⟨v', m2, beqV_eq _ _ a1, m3, m4, Nat.eq_of_beq_eq_true a4, fun b hb => sameB_eq (a2 b hb), fun b hb => sameB_eq (a3 b hb)⟩
              have hn1 : h.n ≤ h1.n := by
                obtain ⟨y, hy⟩ := List.exists_mem_of_ne_nil _ ri.2
                obtain ⟨_, _, _, _, _, l5, _⟩ := look y hy
                have := ri.1 y hy
                rw [l5] at this
                exact this
              have frs : ∀ y ∈ outs, Fresh ρ (subH h (part args h)) y.2.h := fun y hy b h2 h3 => by
                obtain ⟨_, _, _, _, _, l5, _⟩ := look y hy
                rw [l5] at h3
                exact fr b h2 h3
              refine callsTo_of_calls np hf hc (calls_of_wp_defers hf hc ?_)
              refine evL_ok co cn (dr _) c _ outs hev ρ _ w _ enter g frs fun y hy ρ1 a1 w1 st1 r1 => ?_
              obtain ⟨v', l1, l2, l3, l4, l5, l6, l7⟩ := look y hy
              subst l2
              have st : Step ρ h w ρ1 ⟨layB h1 (resB v') h.t, h1.n⟩ w1 := by
                refine Step.frame s sub st1 rfl fr (Nat.le_of_eq l5) fun b x hx => ?_
                have hx' : (layB h1 (resB v') h.t).get b = some x := hx
                rw [layB_get] at hx'
                split at hx'
                · rename_i hb
                  exact .inl (by rw [l7 b hb]; exact hx')
                · by_cases hp : b ∈ part args h
                  · exact .inl (by rw [l6 b hp]; exact hx')
                  · exact .inr ⟨hx', by show (subH h (part args h)).get b = none; rw [subH_get, if_neg hp]⟩
              obtain ⟨u, h3, h4⟩ := resultsV_ok r1.sim r1.env l1
              have hds : a1.defers = [] := by
                have := r1.ds
                rw [l3] at this
                cases hd : a1.defers with
                | nil => rfl
                | cons p q => rw [hd] at this; simp [DRel] at this
              have hlv : Leaves P fn a1.tmps (fun e w' => ∃ v, e = .returned v ∧ ∃ ρ', Step ρ h w ρ' ⟨layB h1 (resB v') h.t, h1.n⟩ w' ∧ VRel ρ' v' v) a1.defers .returning w1 := by
                rw [hds]
                exact ⟨u, h3, u, rfl, ρ1, st, h4⟩
              rcases l4 with l4 | l4
              · rw [l4]; exact hlv
              · rw [l4]; exact hlv
            · cases e
          · cases e
        · cases e
      · cases e
    · cases e
  · cases e

end
end Go.Proofs.YtgihdlhoaimlpaaGreatDoor.AM
