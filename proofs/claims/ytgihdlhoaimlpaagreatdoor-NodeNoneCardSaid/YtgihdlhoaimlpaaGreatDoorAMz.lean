/- The abstract machine: one operation's turn in any order. -/
import Derived.Test.YtgihdlhoaimlpaaGreatDoorAMy
namespace Go.Proofs.YtgihdlhoaimlpaaGreatDoor.AM
set_option autoImplicit false
set_option linter.unusedSimpArgs false
set_option linter.unusedVariables false

section
variable {P : Program} {G nt : Nat} {call : CallF} {ops : Array Oper} {bf pl : List Nat} {S : Nat → DR} {ρ₀ : Ren} {h₀ : H} {w₀ : World}

/-- All that is fixed for a region. -/
structure Ctx (P : Program) (G nt : Nat) (call : CallF) (ops : Array Oper) (bf pl : List Nat) (S : Nat → DR) (ρ₀ : Ren) (h₀ : H) (w₀ : World) : Prop where
  plan : PlanOK P ops bf pl
  run : RunOK P G nt call ops bf pl S
  good : ∀ p, p ≤ pl.length → Good P G nt call ops bf pl S p
  h0 : (S 0).s.h = h₀
  fr : ∀ b, h₀.n ≤ b → b < (S pl.length).s.h.n → ρ₀ b = none
  gok : GOK ρ₀ G
  sim : Sim ρ₀ h₀ w₀

/-- The operations of D have been done, among them the first k writers. -/
structure Inv (nt : Nat) (P : Program) (ops : Array Oper) (bf pl : List Nat) (S : Nat → DR) (ρ₀ : Ren) (h₀ : H) (w₀ : World) (D : Nat → Prop) (k : Nat) (ρ : Ren) (X : H) (a : Act) (w : World) : Prop where
  base : Base ρ₀ h₀ w₀ (S pl.length).s.h.n ρ X w
  size : a.tmps.size = nt
  env0 : ∀ t v, (S 0).s.env.get t = some v → (∀ i, D i → dstOf ops i ≠ some t) → ∃ v', a.tmps[t]? = some v' ∧ VRel ρ v v'
  env : ∀ (q i : Nat), pl[q]? = some i → D i → ∀ t, dstOf ops i = some t → ∀ v, (S (q + 1)).s.env.get t = some v → ∃ v', a.tmps[t]? = some v' ∧ VRel ρ v v'
  cnt : ∀ (q m : Nat), pl[q]? = some m → isMv P ops m = true → (D m ↔ Kp S q < k)
  top : k = 0 ∨ ∃ q m : Nat, pl[q]? = some m ∧ isMv P ops m = true ∧ D m ∧ Kp S q + 1 = k
  heap : ∃ hk dk, (S pl.length).hs[k]? = some (hk, dk) ∧ (∀ b x, hk.get b = some x → X.get b = some x) ∧ DRel ρ dk a.defers ∧ (∀ b, hk.get b ≠ none → h₀.get b ≠ none ∨ b < hk.n)
  al : ∀ i st id x, (i, st, id, x) ∈ (S pl.length).al → D i → k ≤ st → X.get id = some x
  known : ∀ b, ρ b ≠ none → ρ₀ b ≠ none ∨ ∃ q i : Nat, pl[q]? = some i ∧ D i ∧ (S q).s.h.n ≤ b ∧ b < (S (q + 1)).s.h.n
  closed : ∀ i, D i → ∀ i', ahead bf i i' = true → D i'


theorem Ctx.place (C : Ctx P G nt call ops bf pl S ρ₀ h₀ w₀) {q i : Nat} (h : pl[q]? = some i) : q < pl.length := (List.getElem?_eq_some_iff.1 h).1

/-- An entry tells the block that its operation makes. -/
theorem Ctx.entry (C : Ctx P G nt call ops bf pl S ρ₀ h₀ w₀) {i st id : Nat} {x : Blk} (h : (i, st, id, x) ∈ (S pl.length).al) : ∃ (q : Nat) (o : Oper), pl[q]? = some i ∧ ops[i]? = some o ∧ id = (S q).s.h.n ∧ st = Kp S q ∧ (kindOf P o).1 = 1 ∧ x.ro = false ∧
    guardV ops (envAt P ops bf pl S q i o) o = some true ∧ (S (q + 1)).s.h = (S q).s.h.new x := by
  obtain ⟨q, o, v, h1, h2, h3, h4, h5, h6, h7, h8, h9⟩ := (C.good _ (Nat.le_refl _)).al i st id x h
  obtain ⟨y, y1, y2, _⟩ := alOp_new h8
  refine ⟨q, o, h2, h3, h4, h5, h6, ?_, h7, ?_⟩
  · rw [y2, h4] at h9; simp at h9; rw [← h9]; exact y1
  · have : y = x := by rw [y2, h4] at h9; simpa using h9
    rw [← this]; exact y2

theorem Ctx.entry_inj (C : Ctx P G nt call ops bf pl S ρ₀ h₀ w₀) {i st id i' st' : Nat} {x x' : Blk} (h : (i, st, id, x) ∈ (S pl.length).al) (h' : (i', st', id, x') ∈ (S pl.length).al) : x = x' := by
  obtain ⟨q, o, a1, a2, a3, a4, a5, a6, a7, a8⟩ := C.entry h
  obtain ⟨q', o', b1, b2, b3, b4, b5, b6, b7, b8⟩ := C.entry h'
  have hq := Ctx.place C a1; have hq' := Ctx.place C b1
  have e1 : (S (q + 1)).s.h.n = (S q).s.h.n + 1 := by rw [a8]; rfl
  have e2 : (S (q' + 1)).s.h.n = (S q').s.h.n + 1 := by rw [b8]; rfl
  have : q = q' := by
    rcases Nat.lt_trichotomy q q' with c | c | c
    · have := (C.good q' (by omega)).nn (q + 1) (by omega); omega
    · exact c
    · have := (C.good q (by omega)).nn (q' + 1) (by omega); omega
  subst this
  have hh : (S q).s.h.new x = (S q).s.h.new x' := a8.symm.trans b8
  have := congrArg (fun h => h.get (S q).s.h.n) hh
  simpa using this

section
variable {D : Nat → Prop} {k : Nat} {ρ : Ren} {X : H} {a : Act} {w : World} {p j : Nat} {o : Oper}
variable (I : Inv nt P ops bf pl S ρ₀ h₀ w₀ D k ρ X a w) (hp : pl[p]? = some j) (ho : ops[j]? = some o) (hj : ¬ D j) (hr : ∀ i, ahead bf j i = true → D i)

/-- The numbers of the operation are nobody's yet. -/
theorem Ctx.fresh (C : Ctx P G nt call ops bf pl S ρ₀ h₀ w₀) (I : Inv nt P ops bf pl S ρ₀ h₀ w₀ D k ρ X a w) (hp : pl[p]? = some j) (hj : ¬ D j) (b : Nat) (h1 : (S p).s.h.n ≤ b) (h2 : b < (S (p + 1)).s.h.n) : ρ b = none := by
  have pp := Ctx.place C hp
  cases hb : ρ b with
  | none => rfl
  | some y =>
    exfalso
    rcases I.known b (by rw [hb]; simp) with h3 | ⟨q, i, h3, h4, h5, h6⟩
    · have g0 := (C.good p (by omega)).nn 0 (by omega)
      have g1 := (C.good pl.length (Nat.le_refl _)).nn (p + 1) (by omega)
      rw [C.h0] at g0
      exact h3 (C.fr b (by omega) (by omega))
    · rcases Nat.lt_trichotomy q p with c | c | c
      · have := (C.good p (by omega)).nn (q + 1) (by omega); omega
      · subst c; rw [hp] at h3; cases h3; exact hj h4
      · have := (C.good q (by have := Ctx.place C h3; omega)).nn (p + 1) (by omega); omega

/-- What the operation looks at is there. -/
theorem Ctx.erel (C : Ctx P G nt call ops bf pl S ρ₀ h₀ w₀) (I : Inv nt P ops bf pl S ρ₀ h₀ w₀ D k ρ X a w) (hp : pl[p]? = some j) (hj : ¬ D j) (hr : ∀ i, ahead bf j i = true → D i) : ERel ρ nt (envAt P ops bf pl S p j o) a.tmps := by
  refine ⟨I.size, fun t v h => ?_⟩
  obtain ⟨h1, h2⟩ := dropL_get _ _ _ _ h
  have pp := Ctx.place C hp
  rcases (C.good p (by omega)).env t v h2 with ⟨q, i, h3, h4, h5, h6⟩ | h3
  · cases ha : ahead bf j i with
    | true => exact I.env q i h4 (hr i ha) t h5 v h6
    | false =>
      refine absurd ?_ h1
      simp only [peOf]
      have hij : i ≠ j := fun h => by subst h; have := C.plan.inj q p i h4 hp; omega
      refine List.mem_filterMap.2 ⟨i, List.mem_filter.2 ⟨List.mem_range.2 (C.plan.lt q i h4), ?_⟩, h5⟩
      cases hb : ahead bf i j with
      | false => simp [ha, nbf hij]
      | true =>
        obtain ⟨q2, c1, c2⟩ := C.plan.ahd q i j h4 hb
        have := C.plan.inj q2 p j c2 hp
        omega
  · refine I.env0 t v h3.1 fun i hi hd => ?_
    have hij : i ≠ j := fun h => by subst h; exact hj hi
    cases hb : ahead bf i j with
    | true => exact hj (I.closed i hi j hb)
    | false =>
      cases ha : ahead bf j i with
      | true =>
        obtain ⟨q2, c1, c2⟩ := C.plan.ahd p j i hp ha
        exact h3.2 q2 i c1 c2 hd
      | false =>
        refine absurd ?_ h1
        simp only [peOf]
        have hlt : i < ops.size := by
          unfold dstOf at hd
          rw [Option.bind_eq_some_iff] at hd
          obtain ⟨o', ho', _⟩ := hd
          exact (Array.getElem?_eq_some_iff.1 ho').1
        exact List.mem_filterMap.2 ⟨i, List.mem_filter.2 ⟨List.mem_range.2 hlt, by simp [ha, hb, nbf hij]⟩, hd⟩

theorem Ctx.gk (C : Ctx P G nt call ops bf pl S ρ₀ h₀ w₀) (I : Inv nt P ops bf pl S ρ₀ h₀ w₀ D k ρ X a w) : GOK ρ G := C.gok.mono fun b x h => (I.base.ext b x h).imp id And.left

/-- Temporaries after a put. -/
theorem Ctx.putE (C : Ctx P G nt call ops bf pl S ρ₀ h₀ w₀) (I : Inv nt P ops bf pl S ρ₀ h₀ w₀ D k ρ X a w) (hp : pl[p]? = some j) (ho : ops[j]? = some o) {ρ' : Ren} (hx : Ext ρ ρ') {v : V} {v' : Value} {e : T V} (hput : AM.putD nt (S p).s.env o.dst v = some e)
    (he : (S (p + 1)).s.env = e) (hv : VRel ρ' v v') {a' : Act} (ha : a'.tmps = (a.put o.dst v').tmps) :
    a'.tmps.size = nt ∧ (∀ t v, (S 0).s.env.get t = some v → (∀ i, i = j ∨ D i → dstOf ops i ≠ some t) → ∃ v', a'.tmps[t]? = some v' ∧ VRel ρ' v v') ∧
    (∀ (q i : Nat), pl[q]? = some i → i = j ∨ D i → ∀ t, dstOf ops i = some t → ∀ v, (S (q + 1)).s.env.get t = some v → ∃ v', a'.tmps[t]? = some v' ∧ VRel ρ' v v') := by
  have hsz : (a.put o.dst v').tmps.size = nt := by
    cases hd : o.dst with
    | none => exact I.size
    | some d => simp [Act.put, I.size]
  have other : ∀ t, o.dst ≠ some t → (a.put o.dst v').tmps[t]? = a.tmps[t]? := fun t ht => by
    cases hd : o.dst with
    | none => rfl
    | some d =>
      have : d ≠ t := fun h => ht (by rw [hd, h])
      simp only [Act.put]; rw [Array.getElem?_setIfInBounds_ne this]
  rw [ha]
  refine ⟨hsz, fun t u h hno => ?_, fun q i hq hi t ht u hu => ?_⟩
  · obtain ⟨u', h1, h2⟩ := I.env0 t u h fun i hi => hno i (.inr hi)
    have hne := hno j (.inl rfl)
    simp only [dstOf, ho, Option.bind_some] at hne
    exact ⟨u', by rw [other t hne]; exact h1, h2.mono hx⟩
  · by_cases hij : i = j
    · subst hij
      obtain rfl := C.plan.inj p q i hp hq
      simp only [dstOf, ho, Option.bind_some] at ht
      rw [he, putD_get hput, if_pos ht] at hu
      simp only [Option.some.injEq] at hu; subst hu
      refine ⟨v', ?_, hv⟩
      have hlt : t < nt := by
        rw [ht] at hput
        unfold AM.putD at hput
        simp only at hput
        cases hb : Nat.blt t nt with
        | false => rw [hb] at hput; cases hput
        | true => exact Nat.le_of_ble_eq_true hb
      simp [ht, Act.put, I.size, hlt]
    · have hD := hi.resolve_left hij
      obtain ⟨u', h1, h2⟩ := I.env q i hq hD t ht u hu
      have hne : o.dst ≠ some t := fun h => hij (C.plan.dst i j t ht (by simp [dstOf, ho, h]))
      exact ⟨u', by rw [other t hne]; exact h1, h2.mono hx⟩

theorem Ctx.shut (C : Ctx P G nt call ops bf pl S ρ₀ h₀ w₀) (I : Inv nt P ops bf pl S ρ₀ h₀ w₀ D k ρ X a w) (hr : ∀ i, ahead bf j i = true → D i) : ∀ i, i = j ∨ D i → ∀ i', ahead bf i i' = true → i' = j ∨ D i' := fun i hi i' h => by
  rcases hi with rfl | hi
  · exact .inr (hr i' h)
  · exact .inr (I.closed i hi i' h)

/-- An operation that moves nothing has been done. -/
theorem Ctx.add (C : Ctx P G nt call ops bf pl S ρ₀ h₀ w₀) (I : Inv nt P ops bf pl S ρ₀ h₀ w₀ D k ρ X a w) (hp : pl[p]? = some j) (ho : ops[j]? = some o) (hr : ∀ i, ahead bf j i = true → D i) (hk : (kindOf P o).1 ≠ 2)
    {ρ' : Ren} {X' : H} {w' : World} (hx : Ext ρ ρ') {v : V} {v' : Value} {e : T V} (hput : AM.putD nt (S p).s.env o.dst v = some e) (he : (S (p + 1)).s.env = e) (hv : VRel ρ' v v')
    (B : Base ρ₀ h₀ w₀ (S pl.length).s.h.n ρ' X' w') (sub : ∀ b x, X.get b = some x → X'.get b = some x)
    (hal : ∀ st id x, (j, st, id, x) ∈ (S pl.length).al → X'.get id = some x)
    (kn : ∀ b, ρ' b ≠ none → ρ b ≠ none ∨ ((S p).s.h.n ≤ b ∧ b < (S (p + 1)).s.h.n)) : Inv nt P ops bf pl S ρ₀ h₀ w₀ (fun i => i = j ∨ D i) k ρ' X' (a.put o.dst v') w' := by
  obtain ⟨e1, e2, e3⟩ := C.putE I hp ho hx hput he hv (a' := a.put o.dst v') rfl
  have hnm : ∀ m, isMv P ops m = true → m ≠ j := fun m hm h => by subst h; exact hk ((kind_mv ho).1 hm)
  refine ⟨B, e1, e2, e3, fun q m hq hm => ?_, ?_, ?_, fun i st id x hm hi hst => ?_, fun b hb => ?_, C.shut I hr⟩
  · rw [← I.cnt q m hq hm]
    exact ⟨fun h => h.resolve_left (hnm m hm), .inr⟩
  · rcases I.top with h | ⟨q, m, h1, h2, h3, h4⟩
    · exact .inl h
    · exact .inr ⟨q, m, h1, h2, .inr h3, h4⟩
  · obtain ⟨hk', dk, h1, h2, h3, h4⟩ := I.heap
    exact ⟨hk', dk, h1, fun b x h => sub b x (h2 b x h), by rw [put_defers']; exact h3.mono hx, h4⟩
  · rcases hi with rfl | hi
    · exact hal st id x hm
    · exact sub id x (I.al i st id x hm hi hst)
  · rcases kn b hb with h | h
    · rcases I.known b h with h1 | ⟨q, i, h1, h2, h3⟩
      · exact .inl h1
      · exact .inr ⟨q, i, h1, .inr h2, h3⟩
    · exact .inr ⟨p, j, hp, .inl rfl, h⟩

/-- A writer that may be done is the next one. -/
theorem Ctx.next (C : Ctx P G nt call ops bf pl S ρ₀ h₀ w₀) (I : Inv nt P ops bf pl S ρ₀ h₀ w₀ D k ρ X a w) (hp : pl[p]? = some j) (hj : ¬ D j) (hr : ∀ i, ahead bf j i = true → D i) (hm : isMv P ops j = true) : Kp S p = k := by
  have pp := Ctx.place C hp
  have h1 : k ≤ Kp S p := Nat.le_of_not_lt fun h => hj ((I.cnt p j hp hm).2 h)
  rcases (C.good p (by omega)).rank with h2 | ⟨q, m, h2, h3, h4, h5⟩
  · omega
  · have := (I.cnt q m h3 h4).1 (hr m (C.plan.mvp p j q m hp hm h2 h3))
    omega

/-- The heap of the plan ahead of a writer is there. -/
theorem Ctx.there (C : Ctx P G nt call ops bf pl S ρ₀ h₀ w₀) (I : Inv nt P ops bf pl S ρ₀ h₀ w₀ D k ρ X a w) (hp : pl[p]? = some j) (hj : ¬ D j) (hr : ∀ i, ahead bf j i = true → D i) (hm : isMv P ops j = true) :
    (∀ b x, (S p).s.h.get b = some x → X.get b = some x) ∧ DRel ρ (S p).s.ds a.defers ∧ (∀ b, (S p).s.h.get b ≠ none → h₀.get b ≠ none ∨ b < (S p).s.h.n) := by
  have pp := Ctx.place C hp
  have hkp := C.next I hp hj hr hm
  have g := C.good p (by omega)
  obtain ⟨hl, l1, l2, l3⟩ := g.last
  obtain ⟨hk, dk, h1, h2, h3, h4⟩ := I.heap
  have l1' := (C.good pl.length (Nat.le_refl _)).hs p (by omega) _ _ l1
  rw [hkp, h1] at l1'
  simp only [Option.some.injEq, Prod.mk.injEq] at l1'
  obtain ⟨rfl, rfl⟩ := l1'
  refine ⟨fun b x hb => ?_, h3, fun b hb => ?_⟩
  · rcases l3 b x hb with h5 | ⟨i, h5⟩
    · exact h2 b x h5
    · have hm5 := (C.good pl.length (Nat.le_refl _)).als p (by omega) _ h5
      obtain ⟨q, o', v, q1, q2, _⟩ := g.al _ _ _ _ h5
      exact I.al i _ b x hm5 (hr i (C.plan.mvp p j q i hp hm q1 q2)) (by omega)
  · cases hx : (S p).s.h.get b with
    | none => exact absurd hx hb
    | some x =>
      rcases l3 b x hx with h5 | ⟨i, h5⟩
      · rcases h4 b (by rw [h5]; simp) with h6 | h6
        · exact .inl h6
        · exact .inr (by omega)
      · obtain ⟨q, o', v, q1, q2, q3, q4, _, _, _, q8, _⟩ := g.al _ _ _ _ h5
        obtain ⟨y, _, y2, _⟩ := alOp_new q8
        have : (S (q + 1)).s.h.n = (S q).s.h.n + 1 := by rw [y2]; rfl
        have := g.nn (q + 1) (by omega)
        exact .inr (by omega)

/-- A writer has been done. -/
theorem Ctx.moved (C : Ctx P G nt call ops bf pl S ρ₀ h₀ w₀) (I : Inv nt P ops bf pl S ρ₀ h₀ w₀ D k ρ X a w) (hp : pl[p]? = some j) (ho : ops[j]? = some o) (hj : ¬ D j) (hr : ∀ i, ahead bf j i = true → D i) (hk : (kindOf P o).1 = 2)
    {ρ' : Ren} {X' : H} {w' : World} (hx : Ext ρ ρ') {v : V} {v' : Value} {e : T V} (hput : AM.putD nt (S p).s.env o.dst v = some e) (he : (S (p + 1)).s.env = e) (hv : VRel ρ' v v')
    (B : Base ρ₀ h₀ w₀ (S pl.length).s.h.n ρ' X' w') {h' : H} {ds : List (Nat × List V)} (hS : (S (p + 1)).hs = (S p).hs ++ [(h', ds)]) (sub : ∀ b x, h'.get b = some x → X'.get b = some x)
    {E : List Deferred} (hds : DRel ρ' ds E) (lt : ∀ b, h'.get b ≠ none → h₀.get b ≠ none ∨ b < h'.n)
    (hal : ∀ i st id x, (i, st, id, x) ∈ (S pl.length).al → D i → k + 1 ≤ st → X'.get id = some x)
    (kn : ∀ b, ρ' b ≠ none → ρ b ≠ none ∨ ((S p).s.h.n ≤ b ∧ b < (S (p + 1)).s.h.n)) : Inv nt P ops bf pl S ρ₀ h₀ w₀ (fun i => i = j ∨ D i) (k + 1) ρ' X' ({ a with defers := E }.put o.dst v') w' := by
  have pp := Ctx.place C hp
  have hm : isMv P ops j = true := (kind_mv ho).2 hk
  have hkp := C.next I hp hj hr hm
  obtain ⟨e1, e2, e3⟩ := C.putE I hp ho hx hput he hv (a' := { a with defers := E }.put o.dst v') (by cases o.dst <;> rfl)
  refine ⟨B, e1, e2, e3, fun q m hq hmm => ?_, .inr ⟨p, j, hp, hm, .inl rfl, by omega⟩, ⟨h', ds, ?_, sub, by rw [put_defers']; exact hds, lt⟩, fun i st id x hmem hi hst => ?_, fun b hb => ?_, C.shut I hr⟩
  · constructor
    · rintro (rfl | h)
      · obtain rfl := C.plan.inj p q m hp hq; omega
      · have := (I.cnt q m hq hmm).1 h; omega
    · intro h
      rcases Nat.lt_trichotomy q p with c | c | c
      · exact .inr ((I.cnt q m hq hmm).2 (by have := (C.good p (by omega)).before q m c hq hmm; omega))
      · subst c; rw [hp] at hq; cases hq; exact .inl rfl
      · have := (C.good q (by have := Ctx.place C hq; omega)).before p j c hp hm; omega
  · have hlen : (S p).hs.length = k + 1 := by
      have := (C.good p (by omega)).pos
      unfold Kp at hkp; omega
    refine (C.good pl.length (Nat.le_refl _)).hs (p + 1) (by omega) _ _ ?_
    rw [hS, ← hlen]; simp
  · rcases hi with rfl | hi
    · obtain ⟨q, o', a1, a2, _, _, a5, _⟩ := C.entry hmem
      rw [ho] at a2; cases a2; omega
    · exact hal i st id x hmem hi hst
  · rcases kn b hb with h | h
    · rcases I.known b h with h1 | ⟨q, i, h1, h2, h3⟩
      · exact .inl h1
      · exact .inr ⟨q, i, h1, .inr h2, h3⟩
    · exact .inr ⟨p, j, hp, .inl rfl, h⟩

end
end
end Go.Proofs.YtgihdlhoaimlpaaGreatDoor.AM
