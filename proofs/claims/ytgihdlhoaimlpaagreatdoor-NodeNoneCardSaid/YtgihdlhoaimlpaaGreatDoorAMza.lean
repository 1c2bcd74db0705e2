/- The abstract machine: regions whose order is drawn. -/
import Derived.Test.YtgihdlhoaimlpaaGreatDoorAMz
namespace Go.Proofs.YtgihdlhoaimlpaaGreatDoor.AM
set_option autoImplicit false
set_option linter.unusedSimpArgs false
set_option linter.unusedVariables false
set_option linter.unusedSectionVars false

section
variable {P : Program} {G nt : Nat} {call : CallF} {ops : Array Oper} {bf pl : List Nat} {S : Nat → DR} {ρ₀ : Ren} {h₀ : H} {w₀ : World}
variable {D : Nat → Prop} {k : Nat} {ρ : Ren} {X : H} {a : Act} {w : World} {p j : Nat} {o : Oper} {Q : Exit → Act → World → Prop}

/-- One operation, whenever it may be done. -/
theorem Ctx.turn (C : Ctx P G nt call ops bf pl S ρ₀ h₀ w₀) (co : CallOK P G call) (I : Inv nt P ops bf pl S ρ₀ h₀ w₀ D k ρ X a w) (hp : pl[p]? = some j) (ho : ops[j]? = some o) (hj : ¬ D j) (hr : ∀ i, ahead bf j i = true → D i)
    {K : Act → World → Prop} (hK : ∀ k' ρ' X' a' w', Inv nt P ops bf pl S ρ₀ h₀ w₀ (fun i => i = j ∨ D i) k' ρ' X' a' w' → K a' w') : AM.turn P ops Q o K a w := by
  have pp := Ctx.place C hp
  obtain ⟨o', ho', hd⟩ := C.run.step p j hp
  rw [ho] at ho'; cases ho'
  have t := told hd
  have oo : (peOf P ops bf (pl.take p) j o).o = o := rfl
  have jj : (peOf P ops bf (pl.take p) j o).j = j := rfl
  have E : ERel ρ nt (envAt P ops bf pl S p j o) a.tmps := C.erel I hp hj hr
  have gk := C.gk I
  have noEntry : ∀ st id x, (j, st, id, x) ∈ (S pl.length).al → (kindOf P o).1 = 1 ∧ guardV ops (envAt P ops bf pl S p j o) o = some true := fun st id x hm => by
    obtain ⟨q, o', a1, a2, _, _, a5, _, a7, _⟩ := C.entry hm
    rw [ho] at a2; cases a2
    obtain rfl := C.plan.inj p q j hp a1
    exact ⟨a5, a7⟩
  unfold AM.turn
  cases t with
  | off e hg hput hk h =>
    have wt : Region.wanted o (yielded ops a.tmps) = false := guardV_ok E hg
    rw [wt]
    refine hK k ρ X _ w (C.add I hp ho hr hk (Ext.refl _) hput (by rw [h]) undef_rel I.base (fun b x h => h) (fun st id x hm => ?_) (fun b hb => .inl hb))
    have := (noEntry st id x hm).2
    exact absurd (hg.symm.trans this) (by simp)
  | offMv e hg hput hk h =>
    have wt : Region.wanted o (yielded ops a.tmps) = false := guardV_ok E hg
    rw [wt]
    have hm : isMv P ops j = true := (kind_mv ho).2 hk
    obtain ⟨t1, t2, t3⟩ := C.there I hp hj hr hm
    have := C.moved I hp ho hj hr hk (Ext.refl _) hput (by rw [h]) undef_rel I.base (h' := (S p).s.h) (ds := (S p).s.ds) (by rw [h]) t1 t2 t3 (fun i st id x hm hi hst => I.al i st id x hm hi (by omega)) (fun b hb => .inl hb)
    exact hK _ _ _ _ _ this
  | read e v hg hk hput hv h =>
    have wt : Region.wanted o (yielded ops a.tmps) = true := guardV_ok E hg
    rw [wt]
    refine .inl ?_
    have g := C.good p (by omega)
    obtain ⟨hk', dk, h1, h2, h3, h4⟩ := I.heap
    have low : (peOf P ops bf (pl.take p) j o).low ≤ k := by
      show lowGo P ops bf j (pl.take p) 0 0 ≤ k
      rcases lowGo_spec (P := P) (ops := ops) (bf := bf) (j := j) (pl.take p) 0 0 with c | ⟨q, m, c1, c2, c3, c4⟩
      · omega
      · rw [List.getElem?_take] at c1
        split at c1
        · rename_i hq
          have := (I.cnt q m c1 c2).1 (hr m c3)
          have cn := (C.good q (by omega)).cnt
          rw [List.take_take, Nat.min_eq_left (by omega)] at c4
          omega
        · cases c1
    have up : k ≤ Kp S p := by
      rcases I.top with c | ⟨q, m, c1, c2, c3, c4⟩
      · omega
      · rcases Nat.lt_trichotomy q p with d | d | d
        · have := g.before q m d c1 c2; omega
        · subst d; rw [hp] at c1; cases c1; exact absurd c3 hj
        · exact absurd (I.closed m c3 j (C.plan.mvp q m p j c1 c2 d hp)) hj
    obtain ⟨x, hx⟩ : ∃ x, (S p).hs[k]? = some x := by
      have := g.pos
      unfold Kp at up
      exact ⟨(S p).hs[k], by rw [List.getElem?_eq_some_iff]; exact ⟨by omega, rfl⟩⟩
    have hx' := (C.good pl.length (Nat.le_refl _)).hs p (by omega) _ _ hx
    rw [h1] at hx'; cases hx'
    have rd := hv k _ low hx
    have sm : Sim ρ (overA bf j k (S p).al hk') w := I.base.sim.sub fun b y hb => by
      rcases overA_get _ b y hb with c | ⟨i, st, c1, c2, c3⟩
      · exact h2 b y c
      · exact I.al i st b y ((C.good pl.length (Nat.le_refl _)).als p (by omega) _ c1) (hr i c3) c2
    refine wp_gives (rdAll_ok sm E gk rd) fun v' hv' => hK k ρ X _ w (C.add I hp ho hr (by rw [oo] at hk; omega) (Ext.refl _) hput (by rw [h]) hv' I.base (fun b x h => h) (fun st id x hm => ?_) (fun b hb => .inl hb))
    have := (noEntry st id x hm).1
    rw [oo] at hk; omega
  | alloc e v h' x hg hk hput ha hx h =>
    have wt : Region.wanted o (yielded ops a.tmps) = true := guardV_ok E hg
    rw [wt]
    refine .inl ?_
    obtain ⟨y, y1, y2, y3⟩ := alOp_new ha
    have hh : (S (p + 1)).s.h = (S p).s.h.new y := by rw [h]; exact y2
    have hn : (S (p + 1)).s.h.n = (S p).s.h.n + 1 := by rw [hh]; rfl
    have fre := C.fresh I hp hj
    have sX : Sim ρ ⟨X.t, (S p).s.h.n⟩ w := I.base.sim.sub fun b x h => h
    have fX : Fresh ρ ⟨X.t, (S p).s.h.n⟩ (H.new ⟨X.t, (S p).s.h.n⟩ y) := fun b h1 h2 => fre b h1 (by rw [hn]; simpa using h2)
    have xn : X.get (S p).s.h.n = none := by
      cases hc : X.get (S p).s.h.n with
      | none => rfl
      | some z =>
        obtain ⟨W, h1, _⟩ := I.base.sim.live _ _ hc
        rw [fre _ (Nat.le_refl _) (by omega)] at h1; cases h1
    have g0 := (C.good p (by omega)).nn 0 (by omega)
    have g1 := (C.good pl.length (Nat.le_refl _)).nn (p + 1) (by omega)
    rw [C.h0] at g0
    have gx : ∀ b, (H.new ⟨X.t, (S p).s.h.n⟩ y).get b = if b = (S p).s.h.n then some y else X.get b := fun b => by simp [H.get, H.new]
    refine wp_moves (alOp_ok sX fX E gk (y3 ⟨X.t, (S p).s.h.n⟩ rfl)) fun ρ' w' v' st hv' => ?_
    refine hK k ρ' (H.new ⟨X.t, (S p).s.h.n⟩ y) _ w' (C.add I hp ho hr (by rw [oo] at hk; omega) st.toExt hput (by rw [h]) hv' ?_ (fun b z hb => ?_) (fun st id z hm => ?_) (fun b hb => ?_))
    · have hn' : (H.new ⟨X.t, (S p).s.h.n⟩ y).n = (S p).s.h.n + 1 := rfl
      exact Base.step (hb := ⟨X.t, (S p).s.h.n⟩) I.base C.fr (fun b x h => h) st g0 (by omega) (fun b x h => .inl h)
    · rw [gx]
      split
      · rename_i hb'; subst hb'; rw [xn] at hb; cases hb
      · exact hb
    · obtain ⟨q, o', a1, a2, a3, _, _, _, _, a8⟩ := C.entry hm
      obtain rfl := C.plan.inj p q j hp a1
      rw [gx, if_pos a3]
      have := congrArg (fun h => h.get (S p).s.h.n) (hh.symm.trans a8)
      simpa using this
    · by_cases hb0 : ρ b = none
      · have := st.new b hb0 hb
        refine .inr ⟨this.1, ?_⟩
        have h2 : b < (S p).s.h.n + 1 := this.2
        omega
      · exact .inl hb0
  | mover e v h' ds hg hk hput hm h =>
    have wt : Region.wanted o (yielded ops a.tmps) = true := guardV_ok E hg
    rw [wt]
    refine .inl ?_
    have hmv : isMv P ops j = true := (kind_mv ho).2 hk
    obtain ⟨t1, t2, t3⟩ := C.there I hp hj hr hmv
    have fre := C.fresh I hp hj
    have hkp := C.next I hp hj hr hmv
    have hh : (S (p + 1)).s.h = h' := by rw [h]
    have g0 := (C.good p (by omega)).nn 0 (by omega)
    have g1 := (C.good pl.length (Nat.le_refl _)).nn (p + 1) (by omega)
    have g2 := (C.good (p + 1) (by omega)).nn p (by omega)
    rw [C.h0] at g0
    rw [hh] at g1 g2
    have fl : FRel ρ nt ⟨envAt P ops bf pl S p j o, (S p).s.h, (S p).s.ds⟩ a w := ⟨I.base.sim.sub t1, E, t2⟩
    refine mvOp_ok co hm fl gk (fun b h1 h2 => fre b h1 (by rw [hh]; exact h2)) fun ρ' w' v' E' st hv' hd' => ?_
    -- what has been made ahead of its time
    have ext : ∀ i st id x, (i, st, id, x) ∈ (S pl.length).al → D i → k + 1 ≤ st → X.get id = some x ∧ x.ro = false ∧ (S p).s.h.get id = none ∧ h'.get id = none := fun i st' id x hmem hi hst => by
      obtain ⟨q, o', a1, a2, a3, a4, a5, a6, a7, a8⟩ := C.entry hmem
      have hq := Ctx.place C a1
      have hqp : p < q := Nat.lt_of_not_le fun hc => by
        have := (C.good p (by omega)).kk q hc; omega
      have n1 := (C.good q (by omega)).nn (p + 1) (by omega)
      have n2 := (C.good pl.length (Nat.le_refl _)).nn (q + 1) (by omega)
      have n3 : (S (q + 1)).s.h.n = (S q).s.h.n + 1 := by rw [a8]; rfl
      rw [hh] at n1
      have e1 : (S p).s.h.get id = none := by
        cases hc : (S p).s.h.get id with
        | none => rfl
        | some z =>
          exfalso
          rcases t3 id (by rw [hc]; simp) with c | c
          · cases hz : h₀.get id with
            | none => exact c hz
            | some z' =>
              obtain ⟨W, h1, _⟩ := C.sim.live _ _ hz
              rw [C.fr id (by omega) (by omega)] at h1; cases h1
          · omega
      refine ⟨I.al i st' id x hmem hi (by omega), a6, e1, ?_⟩
      cases hc : h'.get id with
      | none => rfl
      | some z =>
        exfalso
        rcases st.live id (by rw [hc]; simp) with c | c
        · exact c e1
        · have := c.2; omega
    open Classical in
    let L := (S pl.length).al.filter fun y => decide (D y.1 ∧ k + 1 ≤ y.2.1)
    have Lm : ∀ i st id x, (i, st, id, x) ∈ L ↔ (i, st, id, x) ∈ (S pl.length).al ∧ D i ∧ k + 1 ≤ st := fun i st id x => by
      show (i, st, id, x) ∈ List.filter _ _ ↔ _
      rw [List.mem_filter]; simp
    refine hK (k + 1) ρ' (overL L h') _ w' (C.moved I hp ho hj hr hk st.toExt hput (by rw [h]) hv' ?_ (h' := h') (ds := ds) (by rw [h]) (fun b z hb => ?_) hd' (fun b hb => ?_) (fun i st' id x hmem hi hst => ?_) (fun b hb => ?_))
    · refine I.base.step C.fr t1 st g0 g1 fun b x hb => ?_
      rcases overL_get _ b x hb with c | ⟨i, st', c⟩
      · exact .inl c
      · obtain ⟨c1, c2, c3⟩ := (Lm _ _ _ _).1 c
        obtain ⟨d1, d2, d3, _⟩ := ext i st' b x c1 c2 c3
        exact .inr ⟨d1, d2, d3⟩
    · rw [overL_not L b fun i st' x hm' => ?_]
      · exact hb
      · obtain ⟨c1, c2, c3⟩ := (Lm _ _ _ _).1 hm'
        obtain ⟨_, _, _, d4⟩ := ext i st' b x c1 c2 c3
        rw [d4] at hb; cases hb
    · rcases st.live b hb with c | c
      · rcases t3 b c with c | c
        · exact .inl c
        · exact .inr (by omega)
      · exact .inr c.2
    · exact overL_mem L (fun i st id x i' st' x' h1 h2 => C.entry_inj ((Lm _ _ _ _).1 h1).1 ((Lm _ _ _ _).1 h2).1) i st' id x ((Lm _ _ _ _).2 ⟨hmem, hi, hst⟩)
    · by_cases hb0 : ρ b = none
      · have := st.new b hb0 hb
        exact .inr ⟨this.1, by rw [hh]; exact this.2⟩
      · exact .inl hb0

/-- Once all is done. -/
theorem Ctx.done (C : Ctx P G nt call ops bf pl S ρ₀ h₀ w₀) (I : Inv nt P ops bf pl S ρ₀ h₀ w₀ D k ρ X a w) (all : ∀ j, j < ops.size → D j) : Step ρ₀ h₀ w₀ ρ (S pl.length).s.h w ∧ FRel ρ nt (S pl.length).s a w := by
  have g := C.good pl.length (Nat.le_refl _)
  have dj : ∀ q i : Nat, pl[q]? = some i → D i := fun q i h => all i (C.plan.lt q i h)
  have hk : Kp S pl.length = k := by
    have h1 : Kp S pl.length ≤ k := by
      rcases g.rank with h | ⟨q, m, h1, h2, h3, h4⟩
      · omega
      · have := (I.cnt q m h2 h3).1 (dj q m h2); omega
    rcases I.top with h | ⟨q, m, h2, h3, h4, h5⟩
    · omega
    · have := g.before q m (Ctx.place C h2) h2 h3; omega
  obtain ⟨hl, l1, l2, l3⟩ := g.last
  obtain ⟨hk', dk, h1, h2, h3, h4⟩ := I.heap
  rw [hk, h1] at l1
  simp only [Option.some.injEq, Prod.mk.injEq] at l1
  obtain ⟨rfl, rfl⟩ := l1
  have sub : ∀ b x, (S pl.length).s.h.get b = some x → X.get b = some x := fun b x hb => by
    rcases l3 b x hb with c | ⟨i, c⟩
    · exact h2 b x c
    · obtain ⟨q, o', a1, _⟩ := C.entry c
      exact I.al i _ b x c (dj q i a1) (by omega)
  have n0 := g.nn 0 (by omega)
  rw [C.h0] at n0
  have sm := I.base.sim.sub sub
  refine ⟨⟨sm, I.base.ext, fun b h0 hb => ?_, fun b hb => ?_, n0, I.base.size, I.base.tape, I.base.os, I.base.output, I.base.keep, fun c hc => ?_, fun c hc => ?_⟩, ⟨sm, ⟨I.size, fun t v ht => ?_⟩, h3⟩⟩
  · rcases I.known b hb with c | ⟨q, i, c1, c2, c3, c4⟩
    · exact absurd h0 c
    · have hq := Ctx.place C c1
      have m1 := (C.good q (by omega)).nn 0 (by omega)
      have m2 := g.nn (q + 1) (by omega)
      rw [C.h0] at m1
      exact ⟨by omega, by omega⟩
  · refine I.base.xl b ?_
    cases hx : (S pl.length).s.h.get b with
    | none => exact absurd hx hb
    | some x => rw [sub b x hx]; simp
  · obtain ⟨b, x, W, e1, e2, e3, e4⟩ := hc
    exact I.base.mu c ⟨b, x, W, sub b x e1, e2, e3, e4⟩
  · obtain ⟨b, x, W, e1, e3, e4⟩ := hc
    exact I.base.liv c ⟨b, x, W, sub b x e1, e3, e4⟩
  · rcases g.env t v ht with ⟨q, i, c1, c2, c3, c4⟩ | c
    · exact I.env q i c2 (dj q i c2) t c3 v c4
    · refine I.env0 t v c.1 fun i hi hd => ?_
      have hlt : i < ops.size := by
        unfold dstOf at hd
        rw [Option.bind_eq_some_iff] at hd
        obtain ⟨o', ho', _⟩ := hd
        exact (Array.getElem?_eq_some_iff.1 ho').1
      obtain ⟨q, hq⟩ := C.plan.surj i hlt
      exact c.2 q i (Ctx.place C hq) hq hd

end

/-- How many are not yet listed. -/
def left (n : Nat) (listed : Array Bool) : Nat := ((List.range n).filter fun i => !listed.getD i true).length

theorem filter_lt {p q : Nat → Bool} : ∀ (l : List Nat), (∀ i, q i = true → p i = true) → (∃ i ∈ l, p i = true ∧ q i = false) → (l.filter q).length < (l.filter p).length
  | [], _, ⟨i, h, _⟩ => by simp at h
  | x :: l, hs, ⟨i, hi, h1, h2⟩ => by
    have le : ∀ l : List Nat, (l.filter q).length ≤ (l.filter p).length := fun l => by
      induction l with
      | nil => simp
      | cons y l ih =>
        rw [List.filter_cons, List.filter_cons]
        split
        · rename_i hq; rw [if_pos (hs y hq)]; simpa using ih
        · split
          · simp; omega
          · exact ih
    rw [List.filter_cons, List.filter_cons]
    rcases List.mem_cons.1 hi with rfl | hi
    · rw [h1, h2]
      simp only [Bool.false_eq_true, if_false, if_true, List.length_cons]
      have := le l; omega
    · have ih := filter_lt l hs ⟨i, hi, h1, h2⟩
      split
      · rename_i hq; rw [if_pos (hs x hq)]; simpa using ih
      · split
        · simp; omega
        · exact ih

theorem left_set {n j : Nat} {listed : Array Bool} (hj : j < n) (hs : listed.size = n) (hu : listed.getD j true = false) : left n (listed.setIfInBounds j true) < left n listed := by
  refine filter_lt _ (fun i h => ?_) ⟨j, List.mem_range.2 hj, by simp [hu], by simp [hs, hj]⟩
  by_cases hij : j = i
  · subst hij; simp [hs, hj] at h
  · rw [getD_set_ne true hij] at h; exact h

section
variable {P : Program} {G nt : Nat} {call : CallF} {ops : Array Oper} {bf pl : List Nat} {S : Nat → DR} {ρ₀ : Ren} {h₀ : H} {w₀ : World}

theorem Ctx.any (C : Ctx P G nt call ops bf pl S ρ₀ h₀ w₀) (co : CallOK P G call) {Q : Exit → Act → World → Prop} (hQ : ∀ ρ a w, Step ρ₀ h₀ w₀ ρ (S pl.length).s.h w → FRel ρ nt (S pl.length).s a w → Q .normal a w) :
    ∀ (fuel : Nat) (listed : Array Bool) (k : Nat) (ρ : Ren) (X : H) (a : Act) (w : World), listed.size = ops.size → left ops.size listed ≤ fuel →
      Inv nt P ops bf pl S ρ₀ h₀ w₀ (fun i => listed.getD i false = true) k ρ X a w → wpAny P .any ops Q fuel listed a w := by
  have same : ∀ (listed : Array Bool) (i : Nat), i < listed.size → listed.getD i true = listed.getD i false := fun listed i h => by
    simp [h]
  have fin : ∀ (listed : Array Bool) (k : Nat) (ρ : Ren) (X : H) (a : Act) (w : World), listed.size = ops.size → Inv nt P ops bf pl S ρ₀ h₀ w₀ (fun i => listed.getD i false = true) k ρ X a w →
      Region.ready .any ops listed = [] → Q .normal a w := fun listed k ρ X a w hs I hr => by
    have all : ∀ j, j < ops.size → listed.getD j false = true := by
      intro j
      induction j using Nat.strongRecOn with
      | _ j ih =>
        intro hj
        cases hc : listed.getD j false with
        | true => rfl
        | false =>
          exfalso
          have : j ∈ Region.ready .any ops listed := by
            rw [mem_ready]
            refine ⟨by rw [same listed j (by omega)]; exact hc, ops[j], by simp [hj], fun e he hb => ?_⟩
            have := C.plan.edge j ops[j] (by simp [hj]) e he hb
            exact ih e.on this (by omega)
          rw [hr] at this; cases this
    obtain ⟨h1, h2⟩ := C.done I all
    exact hQ ρ a w h1 h2
  intro fuel
  induction fuel with
  | zero =>
    intro listed k ρ X a w hs hl I
    have hr : Region.ready .any ops listed = [] := by
      rw [List.eq_nil_iff_forall_not_mem]
      intro j hj
      obtain ⟨h1, o, ho, _⟩ := mem_ready.1 hj
      have hlt := (Array.getElem?_eq_some_iff.1 ho).1
      have := left_set hlt hs h1
      omega
    exact ⟨hr, fin listed k ρ X a w hs I hr⟩
  | succ fuel ih =>
    intro listed k ρ X a w hs hl I
    refine ⟨fin listed k ρ X a w hs I, fun j hj => ?_⟩
    obtain ⟨h1, o, ho, h2⟩ := mem_ready.1 hj
    have hlt := (Array.getElem?_eq_some_iff.1 ho).1
    have hj' : ¬ (listed.getD j false = true) := by rw [← same listed j (by omega), h1]; simp
    have hr : ∀ i, ahead bf j i = true → listed.getD i false = true := fun i hi => by
      obtain ⟨o', ho', e, he, hb, h3⟩ := C.plan.bits j i hi
      rw [ho] at ho'; cases ho'
      have h4 := h2 e he hb
      rcases h3 with rfl | h3
      · exact h4
      · exact I.closed e.on h4 i h3
    obtain ⟨p, hp⟩ := C.plan.surj j hlt
    unfold wpOp
    rw [ho]
    refine C.turn co I hp ho hj' hr fun k' ρ' X' a' w' I' => ?_
    refine ih (listed.setIfInBounds j true) k' ρ' X' a' w' (by simp [hs]) (by have := left_set hlt hs h1; omega) ?_
    have hD : (fun i => (listed.setIfInBounds j true).getD i false = true) = (fun i => i = j ∨ listed.getD i false = true) := by
      funext i
      by_cases hij : j = i
      · subst hij; simp [hs, hlt]
      · rw [getD_set_ne false hij]; simp [Ne.symm hij]
    rw [hD]; exact I'

end

theorem draws {P : Program} {G nt : Nat} {call : CallF} (hm : P.follows .mixedOrders = true) (co : CallOK P G call) (cn : CallN call) : DrawsOK P G nt call := by
  intro id ops s s' e ρ a w Q r g f k
  unfold drawV at e
  split at e
  · rename_i hd
    split at e
    · rename_i l hl
      simp only [Option.map_eq_some_iff] at e
      obtain ⟨d, e, rfl⟩ := e
      obtain ⟨S, s1, s2, s3⟩ := run_places _ _ _ _ _ hl e
      have plan := drawOk_plan hd
      have run : RunOK P G nt call ops (before ops.toList []) (planOf P ops.toList) S := ⟨fun p j hp => by simpa using s3 p j hp⟩
      have gd := good cn run (h0 := s.h) (ds0 := s.ds) (env0 := s.env) s1
      have C : Ctx P G nt call ops (before ops.toList []) (planOf P ops.toList) S ρ s.h w := by
        exact ⟨plan, run, gd, by rw [s1], fun b h1 h2 => f b h1 (by rw [← s2]; exact h2), g, r.sim⟩
      have hnone : ∀ i, (Array.replicate ops.size false).getD i false = false := fun i => by
        by_cases hi : i < ops.size <;> simp [hi]
      refine wp_region_any hm (C.any co (fun ρ' a' w' h1 h2 => k ρ' a' w' (by rw [← s2]; exact h1) (by rw [← s2]; exact h2)) ops.size _ 0 ρ s.h a _ (by simp) ?_ ?_)
      · unfold left
        exact Nat.le_trans (List.length_filter_le _ _) (by simp)
      · refine ⟨Base.start r.sim _ _, r.env.1, fun t v h _ => ?_, fun q i _ h => ?_, fun q m _ _ => ?_, .inl rfl, ⟨s.h, s.ds, ?_, fun b x h => h, r.ds, fun b h => .inl h⟩, fun i st id x _ h => ?_, fun b h => .inl h, fun i h => ?_⟩
        · rw [s1] at h
          exact r.env.2 t v h
        · rw [hnone] at h; cases h
        · rw [hnone]; simp
        · have := (gd _ (Nat.le_refl _)).hs 0 (by omega) 0 (s.h, s.ds) (by simp [s1])
          exact this
        · rw [hnone] at h; cases h
        · rw [hnone] at h; cases h
    · cases e
  · cases e

theorem allDraws {P : Program} {G : Nat} (hm : P.follows .mixedOrders = true) : AllDraws P G := fun call co cn nt => draws hm co cn

end Go.Proofs.YtgihdlhoaimlpaaGreatDoor.AM
